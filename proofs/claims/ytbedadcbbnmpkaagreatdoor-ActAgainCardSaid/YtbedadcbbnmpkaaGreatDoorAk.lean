/- Part 11 of what the proof rests on: SpKUnit, WfOps, WfDef, WfStep, WfTake, WfDo, WfAll, WfRun, SpTwo, SpKnown, SpAgain, SpAgain2. No condition. -/
import Derived.Test.YtbedadcbbnmpkaaGreatDoorAj
set_option linter.unusedSimpArgs false
set_option linter.unusedVariables false
namespace Go.Proofs.YtbedadcbbnmpkaaGreatDoor
open Go Vc
section
def KTo (N t : Nat) (w : World) : Ending -> World -> Prop := fun en w' => ∃ (c : CUnit) (u : TUnit),en = .returned (.agg #[.slice c.names.p c.names.n c.names.c,.slice c.classes.p c.classes.n c.classes.c,.slice c.methods.p c.methods.n c.methods.c,.slice c.objects.p c.objects.n c.objects.c,.int .i64 c.main]) /\ IsUnit w'.heap (fun y => w.heap.size <= y) c u /\ UOk u /\ IsTape N w'.heap t /\ Fr (· = t) w.heap w'.heap
abbrev hd0 : Hd := ⟨none,0,0⟩
def CInv (xs : List TClass) (k : Nat) : Prop := xs.length = k + 2 /\ ∀ (i : Nat) (x : TClass),xs[i]? = some x -> ClassAt xs i x /\ x.binds = []
theorem ClassAt.more {xs ys : List TClass} {i : Nat} {x : TClass} (hi : i <= xs.length) (h : ClassAt xs i x) : ClassAt (xs ++ ys) i x := by
 refine ⟨h.1,?_⟩
 rcases h.2 with h | h | ⟨h1,h2,h3,h4⟩
 ·exact .inl h
 ·exact .inr (.inl h)
 ·refine .inr (.inr ⟨h1,h2,h3,h4.imp id fun ⟨a,b,c⟩ => ⟨a,b,?_⟩⟩)
  have : (xs ++ ys).getD x.super.toNat default = xs.getD x.super.toNat default := by
   simp only [List.getD_eq_getElem?_getD]
   rw [List.getElem?_append_left (by omega)]
  rw [this]; exact c
theorem CInv.snoc {xs : List TClass} {k : Nat} {x : TClass} (h : CInv xs k) (hx : ClassAt xs (k + 2) x) (hb : x.binds = []) : CInv (xs ++ [x]) (k + 1) := by
 refine ⟨by simp [h.1],fun i y hy => ?_⟩
 by_cases hi : i < xs.length
 ·rw [List.getElem?_append_left hi] at hy
  exact ⟨(h.2 i y hy).1.more (by omega),(h.2 i y hy).2⟩
 ·rw [List.getElem?_append_right (by omega)] at hy
  have hi2 : i = xs.length := by
   have := (List.getElem?_eq_some_iff.1 hy).1
   simp at this; omega
  subst hi2
  simp at hy; subst hy
  exact ⟨by rw [h.1]; exact hx.more (by rw [h.1]; omega),hb⟩
theorem cls_name {t1 : Int} (h : 0 <= t1 /\ t1 < 3) : ((⟨#[67]⟩ : ByteArray) ++ (Utf8.encode (IntKind.wrap .i32 (IntKind.wrap .i64 (48 + t1))))) = clsNames.getD (t1.toNat + 2) ⟨#[]⟩ /\ (decide ((⟨#[67]⟩ : ByteArray).size + (Utf8.encode (IntKind.wrap .i32 (IntKind.wrap .i64 (48 + t1)))).size <= 9223372036854775807)) = true := by
 have : t1 = 0 \/ t1 = 1 \/ t1 = 2 := by omega
 rcases this with rfl | rfl | rfl <;> exact ⟨by kernel_rfl,by kernel_rfl⟩
theorem ClassAt.set {xs : List TClass} {k i : Nat} {x x0 : TClass} {B : List TBind} (h0 : xs[k]? = some x0) (h : ClassAt xs i x) : ClassAt (xs.set k { x0 with binds := B }) i x := by
 refine ⟨h.1,h.2.imp id fun h => h.imp id fun ⟨a,b,c,e⟩ => ⟨a,b,c,e.imp id fun ⟨u,v,z⟩ => ⟨u,v,?_⟩⟩⟩
 have hk := (List.getElem?_eq_some_iff.1 h0).1
 have : ((xs.set k { x0 with binds := B }).getD x.super.toNat default).fields = (xs.getD x.super.toNat default).fields := by
  simp only [List.getD_eq_getElem?_getD]
  by_cases e : k = x.super.toNat
  ·rw [<- e,List.getElem?_set_self hk,h0]; rfl
  ·rw [List.getElem?_set_ne e]
 rw [this]; exact z
theorem set_id {α : Type} {l : List α} {k : Nat} {x : α} (h : l[k]? = some x) : l.set k x = l := by
 obtain ⟨hk,rfl⟩ := List.getElem?_eq_some_iff.1 h
 exact List.set_getElem_self hk
section
variable {N t : Nat} {w : World}
def Q1 (b nb : Nat) (h : Hp) : Prop := Bk h b [.slice none 0 0,.slice none 0 0,.slice none 0 0,.slice none 0 0,.int .i64 0] /\ Bk h nb (recs eStr keepNames)
def ucells (nb : Nat) (d1 d2 d3 : Hd) : List Value := [.slice (some ⟨nb,0,none⟩) 6 6,.slice d1.p d1.n d1.c,.slice d2.p d2.n d2.c,.slice d3.p d3.n d3.c,.int .i64 6]
@[simp] theorem ucells_len (nb : Nat) (d1 d2 d3 : Hd) : (ucells nb d1 d2 d3).length = 5 := rfl
def Ph1 (N t : Nat) (w0 : World) (b nb b1 b2 : Nat) (k : Int) (w' : World) : Prop := ∃ d l xs,0 <= k /\ k <= 3 /\ b2 < w'.heap.size /\ CInv xs k.toNat /\ (∀ c ∈ l,c.binds = hd0) /\ PX eClass IsClass (fun y => b2 <= y /\ y < w'.heap.size) w'.heap d.p d.n d.c l xs [] [] /\ US N (fun y => b2 <= y) t w0.heap.size b1 (Q1 b nb) w0.heap w'.heap (ucells nb d hd0 hd0)
def Q2 (b nb b2 m : Nat) (d : Hd) (l : List CClass) (xs : List TClass) (h : Hp) : Prop := Q1 b nb h /\ PX eClass IsClass (fun y => b2 <= y /\ y < m) h d.p d.n d.c l xs [] []
def Ph2 (N t : Nat) (w0 : World) (b nb b1 b2 m M : Nat) (d : Hd) (l : List CClass) (xs : List TClass) (k : Nat) (w' : World) : Prop := ∃ d2 l2 ms,M <= w'.heap.size /\ ms.length = k /\ (∀ (i : Nat) (x : TMethod),ms[i]? = some x -> TMok (d.n : Int) (mArgsOf.getD i 0) x) /\ PX eMethod IsMethod (fun y => M <= y /\ y < w'.heap.size) w'.heap d2.p d2.n d2.c l2 ms [] [] /\ US N (fun y => M <= y) t w0.heap.size b1 (Q2 b nb b2 m d l xs) w0.heap w'.heap (ucells nb d d2 hd0)
def Q3 (b nb M M3 : Nat) (d : Hd) (l : List CMethod) (ms : List TMethod) (h : Hp) : Prop := Q1 b nb h /\ PX eMethod IsMethod (fun y => M <= y /\ y < M3) h d.p d.n d.c l ms [] []
def W3 (b2 m M3 : Nat) (y : Nat) : Prop := (b2 <= y /\ y < m) \/ M3 <= y
def V3 (b2 m M3 n : Nat) (y : Nat) : Prop := (b2 <= y /\ y < m) \/ M3 <= y /\ y < n
def CBnd (k : Nat) (l : List CClass) (xs : List TClass) : Prop := (∀ (i : Nat) (x : TClass),xs[i]? = some x -> ClassAt xs i x /\ (i < k -> BP 6 x.binds) /\ (k <= i -> x.binds = [])) /\ ∀ (i : Nat) (c : CClass),l[i]? = some c -> k <= i -> c.binds = hd0
theorem CBnd.next {k : Nat} {l : List CClass} {xs : List TClass} (h : CBnd k l xs) {x0 : TClass} (h0 : xs[k]? = some x0) {c : CClass} {B : List TBind} (hB : BP 6 B) : CBnd (k + 1) (l.set k c) (xs.set k { x0 with binds := B }) := by
 have hk := (List.getElem?_eq_some_iff.1 h0).1
 refine ⟨fun i x hx => ?_,fun i a ha hi => ?_⟩
 ·by_cases e : k = i
  ·subst e
   rw [List.getElem?_set_self hk] at hx
   simp only [Z3] at hx
   subst hx
   have := (h.1 k x0 h0).1
   exact ⟨ClassAt.set (x := { x0 with binds := B }) h0 ⟨this.1,this.2⟩,fun _ => hB,fun h => by omega⟩
  ·rw [List.getElem?_set_ne e] at hx
   obtain ⟨a1,a2,a3⟩ := h.1 i x hx
   exact ⟨a1.set h0,fun hi => a2 (by omega),fun hi => a3 (by omega)⟩
 ·rw [List.getElem?_set_ne (by omega)] at ha
  exact h.2 i a ha (by omega)
def Ph3 (N t : Nat) (w0 : World) (b nb b1 b2 m M M3 : Nat) (d d2 : Hd) (l2 : List CMethod) (ms : List TMethod) (k : Nat) (w' : World) : Prop := ∃ l xs,xs.length = d.n /\ CBnd k l xs /\ M3 <= w'.heap.size /\ PX eClass IsClass (V3 b2 m M3 w'.heap.size) w'.heap d.p d.n d.c l xs [] [] /\ US N (W3 b2 m M3) t w0.heap.size b1 (Q3 b nb M M3 d2 l2 ms) w0.heap w'.heap (ucells nb d d2 hd0)
def Ph3i (N t : Nat) (w0 : World) (b nb b1 b2 m M M3 mc k : Nat) (d d2 : Hd) (l2 : List CMethod) (ms : List TMethod) (T K : Nat -> Prop) (l : List CClass) (xs : List TClass) (c0 : CClass) (s : Nat) (w' : World) : Prop := ∃ (hd : Hd) (B : List TBind),mc <= w'.heap.size /\ BP s B /\ Sl w'.heap T eClass d.p d.n d.c (l.set k { c0 with binds := hd }) /\ All2 (IsClass w'.heap K) l xs /\ (∃ TB : Nat -> Prop,SlH w'.heap TB eBind hd B /\ ∀ y,TB y -> mc <= y /\ y < w'.heap.size) /\ US N (W3 b2 m M3) t w0.heap.size b1 (Q3 b nb M M3 d2 l2 ms) w0.heap w'.heap (ucells nb d d2 hd0)
def Q4 (b nb b2 m M M3 n3 : Nat) (d d3 : Hd) (l : List CClass) (xs : List TClass) (l3 : List CMethod) (ms : List TMethod) (h : Hp) : Prop := Q3 b nb M M3 d3 l3 ms h /\ PX eClass IsClass (V3 b2 m M3 n3) h d.p d.n d.c l xs [] []
def Ph4 (N t : Nat) (w0 : World) (b nb b1 b2 m M M3 n3 M4 : Nat) (d d3 : Hd) (l : List CClass) (xs : List TClass) (l3 : List CMethod) (ms : List TMethod) (n k : Nat) (w' : World) : Prop := ∃ d4 l4 os,M4 <= w'.heap.size /\ os.length = k /\ (∀ o ∈ os,OGood o xs n) /\ PX eObj IsObj (fun y => M4 <= y /\ y < w'.heap.size) w'.heap d4.p d4.n d4.c l4 os [] [] /\ US N (fun y => M4 <= y) t w0.heap.size b1 (Q4 b nb b2 m M M3 n3 d d3 l xs l3 ms) w0.heap w'.heap (ucells nb d d3 d4)
set_option maxHeartbeats 4000000 in
theorem keep_Unit_ok (hT : IsTape N w.heap t) (hN : N <= w.heap.size) : Calls P F.Z1 #[.pointer (some ⟨t,0,none⟩)] w (KTo N t w) := by
 refine oZ1 ?_
 unfold vZ1
 have htN := hT.lt
 refine newB_i ?_; intro b w1 b_eq hB hN1 w1_sz; try simp only [drew_heap',dr_heap] at b_eq hN1
 refine (keep_Names_ok w1).mono ?_; rintro _ w2 ⟨nb,rfl,hnb,hnB,hN2⟩
 refine ⟨_,_,_,rfl,?_⟩
 have hlt2 := hnB.lt
 refine newB_i ?_; intro b1 w3 b1_eq hB1 hN3 w3_sz; try simp only [drew_heap',dr_heap] at b1_eq hN3
 refine stores_i hB1 (by simp [sets_length]) ?_; intro w4 hB4 hF4 w4_sz; try simp only [drew_heap',dr_heap] at w4_sz hF4
 simp only [sets,ZH,ZI] at hB4
 refine newB_i ?_; intro b2 w5 b2_eq hB5 hN5 w5_sz; try simp only [drew_heap',dr_heap] at b2_eq hN5
 have hb5 := hB4.nw hN5
 refine stores_i hb5 (by simp [sets_length]) ?_; intro w6 hB6 hF6 w6_sz; try simp only [drew_heap',dr_heap] at w6_sz hF6
 simp only [sets,ZH,ZI] at hB6
 have us : US N (fun y => b2 <= y) t w.heap.size b1 (Q1 b nb) w.heap w6.heap (ucells nb ⟨some ⟨b2,0,none⟩,2,2⟩ hd0 hd0) := by
  refine ⟨(((((hT.nw hN1).nw hN2).nw hN3).fr hF4 fun y hy => by omega).nw hN5).fr hF6 fun y hy => by omega,hB6,⟨((((hB.nw hN2).nw hN3).fr hF4 (by omega)).nw hN5).fr hF6 (by omega),(((hnB.nw hN3).fr hF4 (by omega)).nw hN5).fr hF6 (by omega)⟩,fun h h' q hF => ⟨q.1.fr hF (by omega),q.2.fr hF (by omega)⟩,?_,fun y hy => by omega,⟨by omega,by omega,hN⟩⟩
  exact ((hN1.fr.trans' hN2.fr).trans' (hN3.fr.trans' (hF4.mono fun y _ e => .inl (by omega)))).trans' (hN5.fr.trans' (hF6.mono fun y _ e => .inl (by omega)))
 have px : PX eClass IsClass (fun y => b2 <= y /\ y < w6.heap.size) w6.heap (some ⟨b2,0,none⟩) 2 2 [⟨⟨#[66,108,111,99,107]⟩,-1,4,hd0⟩,⟨⟨#[65,114,114,97,121]⟩,-1,0,hd0⟩] [⟨⟨#[66,108,111,99,107]⟩,-1,4,[]⟩,⟨⟨#[65,114,114,97,121]⟩,-1,0,[]⟩] [] [] :=
  ⟨fun y => y = b2,fun _ => False,Sl.of_blk (ok := fun y => y = b2) (E := eClass) (n := 2) (l := [⟨⟨#[66,108,111,99,107]⟩,-1,4,hd0⟩,⟨⟨#[65,114,114,97,121]⟩,-1,0,hd0⟩]) (hB5.fr hF6 (by omega)) rfl rfl (by omega),(All2.nil.cons ⟨rfl,rfl,rfl,Sl.nil⟩).cons ⟨rfl,rfl,rfl,Sl.nil⟩,All2.nil,fun y hy => by omega,fun y hy => hy.elim⟩
 refine ⟨Ph1 N t w b nb b1 b2,fun t1 _ => (4 - t1).toNat,⟨_,_,_,by omega,by omega,by omega,⟨rfl,fun i x hx => ?_⟩,by simp,px,us⟩,?_⟩
 ·have hi := (List.getElem?_eq_some_iff.1 hx).1
  have : i = 0 \/ i = 1 := by simp at hi; omega
  rcases this with rfl | rfl <;> (simp at hx; subst hx; exact ⟨⟨rfl,by simp⟩,rfl⟩)
 have hz : w.heap.size <= b /\ b < b1 /\ w.heap.size <= nb /\ nb < b1 /\ b1 < b2 /\ b < nb := by omega
 clear us px hB hN1 hN2 hnB hB1 hN3 hB4 hF4 hB5 hN5 hb5 hB6 hF6 hT w1_sz w3_sz w4_sz w5_sz w6_sz
 clear b_eq hnb hlt2 b1_eq b2_eq w1 w2 w3 w4 w5 w6
 rintro t1 w1 ⟨d,l,xs,k0,k3,hsz,hxs,hnil,px,us⟩
 have hlen := px.len
 have hxl := hxs.1
 refine us.next _ ?_; intro x w2 x0 x1 F2 us2; replace x1 := x1 (by omega)
 refine br_of (fun h1 => ?_) (fun h1 => ?_) <;> simp only [ZJ,ZK,ZR] at h1
 ·obtain ⟨hname,hchk⟩ := cls_name ⟨k0,show t1 < 3 by omega⟩
  refine chk_of hchk ?_
  simp only [hname]
  clear hname hchk
  refine us2.next _ ?_; intro fl w3 f0 f1 F3 us3; replace f1 := f1 (by omega)
  refine newB_i ?_; intro b3 w4 b3_eq hB4 hN4 w4_sz; try simp only [drew_heap',dr_heap] at b3_eq hN4
  refine stores_i hB4 (by simp [sets_length]) ?_; intro w5 hB5 hF5 w5_sz; try simp only [drew_heap',dr_heap] at w5_sz hF5
  simp only [sets,ZH,ZI] at hB5
  have hb3 : w1.heap.size <= b3 := by have := F2.le; have := F3.le; omega
  have us5 := (us3.nw hN4).go ((us3.tape.nw hN4).fr hF5 fun y hy => by have := us3.r; have := us3.bb.lt; omega) (hF5.mono fun y _ e => .inl (by have := us3.bb.lt; omega))
  have F5 : Fr (fun y => w1.heap.size <= y \/ y = t) w1.heap w5.heap := (((F2.mono fun y _ e => .inr e).trans' (F3.mono fun y _ e => .inr e)).trans' hN4.fr).trans' (hF5.mono fun y _ e => .inl (by omega))
  have hC : ClassAt xs (t1.toNat + 2) ⟨clsNames.getD (t1.toNat + 2) ⟨#[]⟩,-1,fl,[]⟩ := ⟨rfl,.inr (.inr ⟨by omega,f0,by simp only; omega,.inl rfl⟩)⟩
  refine join_of (fun _ w' => ∃ sup fl : Int,Bk w'.heap b3 [.string (clsNames.getD (t1.toNat + 2) ⟨#[]⟩),.int .i64 sup,.int .i64 fl,.slice none 0 0] /\ US N (fun y => b2 <= y) t w.heap.size b1 (Q1 b nb) w.heap w'.heap (ucells nb d hd0 hd0) /\ Fr (fun y => w1.heap.size <= y \/ y = t) w1.heap w'.heap /\ ClassAt xs (t1.toNat + 2) ⟨clsNames.getD (t1.toNat + 2) ⟨#[]⟩,sup,fl,[]⟩) ?_ ?_
  ·clear hC F5 us5 hB5 hF5 hB4 hN4 us2 us3 F2 F3 w4_sz w5_sz b3_eq hb3
   clear f0 f1 fl w2 w3 w4 w5
   rintro _ w6 ⟨sup,fl,hB6,us6,F6,hC⟩
   have hle6 := F6.le
   refine ⟨d.p,d.n,d.c,by rw [us6.bb.cell]; rfl,?_⟩
   refine ⟨_,sup,fl,none,0,0,hB6.holds,?_⟩
   refine newB_i ?_; intro b4 w7 b4_eq hB7 hN7 w7_sz; try simp only [drew_heap',dr_heap] at b4_eq hN7
   have us7 := us6.nw hN7
   have hr := us7.r
   have px7 := px.fr (V' := fun y => b2 <= y /\ y < w1.heap.size) stb_class (F6.trans' hN7.fr) (fun y _ hy e => by omega) (fun y _ hy => hy)
   have px8 := px7.pend stb_class (K2 := fun _ => False) (a := ⟨clsNames.getD (t1.toNat + 2) ⟨#[]⟩,sup,fl,hd0⟩) (b := ⟨clsNames.getD (t1.toNat + 2) ⟨#[]⟩,sup,fl,[]⟩) ⟨rfl,rfl,rfl,Sl.nil⟩ (fun _ h => h.elim)
   refine PX.app (n2 := 1) ty_class stb_class px8 (fun y hy => ?_) hB7 ?_ rfl (by omega) ?_
   ·rcases hy with hy | hy
    ·omega
    ·exact hy.elim
   ·intro e
    rcases e with e | e
    ·omega
    ·exact e
   intro p' c' w8 px9 F9
   have hle9 := F9.le
   have F9' : Fr (fun y => b2 <= y) w7.heap w8.heap := F9.mono fun y _ e => e.elim (fun e => e.1) (fun e => e.elim)
   have us8 := us7.go (us7.tape.fr F9' fun y hy => by omega) (F9'.mono fun y _ e => .inl e)
   have hb8 := us8.bb
   refine stores_i hb8 (by simp [sets_length]) ?_; intro w9 hB9 hF9 w9_sz; try simp only [drew_heap',dr_heap] at w9_sz hF9
   have us9 := us8.st hB9 hF9
   have px10 := px9.fr (V' := fun y => b2 <= y /\ y < w9.heap.size) stb_class hF9 (fun y _ hy e => by rcases hy with (hy | hy) | hy <;> first | omega | exact hy) (fun y hy1 hy => by have := hF9.le; rcases hy with (hy | hy) | hy <;> first | omega | exact hy.elim)
   rw [wrap_id (by omega) (by omega)]
   refine ⟨⟨⟨p',_,c'⟩,_,_,by omega,by omega,by omega,?_,?_,px10,us9⟩,by omega⟩
   ·rw [show (t1 + 1).toNat = t1.toNat + 1 by omega]
    exact hxs.snoc hC rfl
   ·intro c hc
    rcases List.mem_append.1 hc with hc | hc
    ·exact hnil c hc
    ·simp at hc; rw [hc]
  ·intro J hJ
   refine br_of (fun h2 => ?_) (fun h2 => ?_) <;> simp only [ZJ,ZK,ZQ] at h2
   ·refine us5.next _ ?_; intro x3 w6 _ _ F6 us6
    have hB6 := hB5.fr F6 (by have := us6.r; omega)
    have F6' := F5.trans' (F6.mono fun y _ e => .inr e)
    refine br_of (fun h3 => ?_) (fun h3 => ?_)
    ·refine us6.next _ ?_; intro x4 w7 x40 x41 F7 us7
     replace x41 := x41 (by omega)
     have hB7 := hB6.fr F7 (by have := us6.r; omega)
     have F7' := F6'.trans' (F7.mono fun y _ e => .inr e)
     rw [wrap_id (x := 2 + x4) (by omega) (by omega)]
     refine stores_i hB7 (by simp [sets_length]) ?_; intro w8 hB8 hF8 w8_sz; try simp only [drew_heap',dr_heap] at w8_sz hF8
     simp only [sets,ZH,ZI] at hB8
     have us8 := us7.go (us7.tape.fr hF8 fun y hy => by have := us7.r; omega) (hF8.mono fun y _ e => .inl (by omega))
     have F8 := F7'.trans' (hF8.mono fun y _ e => .inl (by omega))
     rw [wv_eq]
     replace hB8 : Bk w8.drew.heap b3 _ := hB8
     replace us8 : US N (fun y => b2 <= y) t w.heap.size b1 (Q1 b nb) w.heap w8.drew.heap (ucells nb d hd0 hd0) := us8
     replace F8 : Fr (fun y => w1.heap.size <= y \/ y = t) w1.heap w8.drew.heap := F8
     generalize w8.drew = w9 at *
     refine ⟨d.p,d.n,d.c,by rw [us8.bb.cell]; rfl,2 + x4,by rw [hB8.cell]; rfl,?_⟩
     refine chk_of (by simp; omega) ?_
     have hr := us8.r
     have px9 := px.fr (V' := fun y => b2 <= y /\ y < w1.heap.size) stb_class F8 (fun y _ hy e => by omega) (fun y _ hy => hy)
     obtain ⟨y,hy⟩ : ∃ y,xs[(2 + x4).toNat]? = some y := ⟨_,getD_some (d := default) (by omega)⟩
     obtain ⟨a,ha,⟨K,hK⟩,g,o,hp,hg,hh⟩ := px9.hold hy
     rw [hp,onPtr_some]
     refine ⟨a.fields,hh.2.2.1,?_⟩
     have hfy := (hxs.2 _ _ hy).1
     have hya : a.fields = y.fields := hK.fields
     have hyd : xs.getD (2 + x4).toNat default = y := by rw [List.getD_eq_getElem?_getD,hy]; rfl
     have hyf : 0 <= y.fields /\ y.fields <= 2 * ((2 + x4).toNat : Int) := by
      rcases hfy.2 with h | h | h <;> omega
     refine us8.next _ ?_; intro x7 w10 x70 x71 F10 us10
     replace x71 := x71 (by omega)
     refine ⟨⟨cell_fr hh.2.2.1 F10 (by omega),by rw [(hB8.fr F10 (by omega)).cell]; rfl,by rw [us10.bb.cell,<- hp]; rfl,trivial⟩,?_⟩
     have hB10 := hB8.fr F10 (by omega)
     rw [wrap_id (x := a.fields + x7) (by omega) (by omega)]
     refine stores_i hB10 (by simp [sets_length]) ?_; intro w11 hB11 hF11 w11_sz; try simp only [drew_heap',dr_heap] at w11_sz hF11
     simp only [sets,ZH,ZI] at hB11
     refine ⟨trivial,hJ _ _ ⟨2 + x4,a.fields + x7,hB11,us10.go (us10.tape.fr hF11 fun y hy => by omega) (hF11.mono fun y _ e => .inl (by omega)),(F8.trans' (F10.mono fun y _ e => .inr e)).trans' (hF11.mono fun y _ e => .inl (by omega)),⟨rfl,.inr (.inr ⟨by omega,by simp only; omega,by simp only; omega,.inr ⟨by simp only; omega,by simp only; omega,?_⟩⟩)⟩⟩⟩
     simp only
     rw [hyd]; omega
    ·exact hJ _ _ ⟨-1,fl,hB6,us6,F6',hC⟩
   ·exact hJ _ _ ⟨-1,fl,hB5,us5,F5,hC⟩
 ·refine (keep_Names_ok w2).mono ?_; rintro _ w3 ⟨nb2,rfl,_l1,_l2,hN3⟩
  refine ⟨_,_,_,rfl,?_⟩
  have hr := us.r
  have hle3 := hN3.le; have hle2 := F2.le
  have us3 := (us2.nw hN3).turn (Q' := Q2 b nb b2 w1.heap.size d l xs) (W' := fun y => w3.heap.size <= y) ⟨(us2.nw hN3).q,px.fr stb_class ((F2.mono fun y _ e => e).trans (S' := fun _ => False) (T := fun y => y = t) hN3 (fun _ _ e => e) (fun _ _ e => e.elim)) (fun y _ hy e => by omega) (fun y _ hy => hy)⟩
   (fun h h' q hF => ⟨⟨q.1.1.fr hF (by omega),q.1.2.fr hF (by omega)⟩,q.2.fr stb_class hF (fun y _ hy e => by omega) (fun y _ hy => hy)⟩) (fun y hy => ⟨by omega,by omega⟩)
  have hcl : 3 <= d.n /\ d.n <= 5 := by omega
  obtain ⟨m,hm⟩ : ∃ m,m = w1.heap.size := ⟨_,rfl⟩
  obtain ⟨M,hM⟩ : ∃ M,M = w3.heap.size := ⟨_,rfl⟩
  have hMm : m <= M /\ b2 < m := by omega
  refine ⟨fun t3 w' => 0 <= t3 /\ t3 <= 6 /\ Ph2 N t w b nb b1 b2 m M d l xs t3.toNat w',fun t3 _ => (6 - t3).toNat,⟨by omega,by omega,hd0,[],[],by omega,rfl,fun i x h => by simp at h,PX.nil,by rw [hm,hM]; exact us3⟩,?_⟩
  have hxl2 := hxs.2; have hxn := hlen.2.1
  clear us3 us2 us px F2 hN3 hsz hlen hm hM hle2 hle3 hr
  clear _l1 _l2
  clear w1 w2 w3
  rintro t3 w1 ⟨q0,q6,d2,l2,ms,hMs,hml,hmt,pm,us⟩
  have hr := us.r
  have hln := pm.len
  refine br_of (fun h1 => ?_) (fun h1 => ?_) <;> simp only [ZJ,ZK,ZQ] at h1
  ·rw [wv_eq]
   replace us : US N (fun y => M <= y) t w.heap.size b1 (Q2 b nb b2 m d l xs) w.heap w1.drew.heap (ucells nb d d2 hd0) := us
   replace pm : PX eMethod IsMethod (fun y => M <= y /\ y < w1.drew.heap.size) w1.drew.heap d2.p d2.n d2.c l2 ms [] [] := pm
   replace hMs : M <= w1.drew.heap.size := hMs
   generalize w1.drew = w2 at *
   refine ⟨d2.p,d2.n,d2.c,by rw [us.bb.cell]; rfl,d.p,d.n,d.c,by rw [us.bb.cell]; rfl,?_⟩
   refine (keep_args_ok w2 ⟨q0,h1⟩).mono ?_; rintro _ w3 ⟨rfl,hN3⟩
   have us3 := us.nw hN3
   refine ⟨_,rfl,⟨by rw [us3.bb.cell]; rfl,by rw [us3.bb.cell]; rfl,trivial⟩,?_⟩
   have hle3 := hN3.le
   refine (keep_method_ok us3.tape (by omega) (classes := (d.n : Int)) (by omega) false).mono ?_; rintro _ w4 ⟨r,x,rfl,hIs,hTM,hT4,F4⟩
   have us4 := us3.go hT4 (F4.mono fun y _ e => .inr e)
   refine ⟨_,_,_,_,_,_,_,_,rfl,⟨by rw [us4.bb.cell]; rfl,by rw [us4.bb.cell]; rfl,trivial⟩,?_⟩
   have pm3 := pm.fr (V' := fun y => M <= y /\ y < w3.heap.size) stb_method hN3 (fun _ _ _ e => e) (fun y _ hy => by omega)
   have pm4 := pm3.call stb_method F4 (by omega) (by omega) hIs
   have hle4 := F4.le
   refine newB_i ?_; intro b5 w5 b5_eq hB5 hN5 w5_sz; try simp only [drew_heap',dr_heap] at b5_eq hN5
   have us5 := us4.nw hN5
   refine ⟨⟨by rw [us5.bb.cell]; rfl,by rw [us5.bb.cell]; rfl,trivial⟩,?_⟩
   refine pm4.appz (n2 := 1) ty_method stb_method hN5 (by omega) hB5 rfl (by omega) (by omega) ?_
   intro p' c' w6 pm6 F6
   have us6 := us5.go (us5.tape.fr F6 fun y hy => by omega) (F6.mono fun y _ e => .inl e)
   refine ⟨⟨by rw [us6.bb.cell]; rfl,trivial⟩,?_⟩
   have hb6 := us6.bb
   refine stores_i hb6 (by simp [sets_length]) ?_; intro w7 hB7 hF7 w7_sz; try simp only [drew_heap',dr_heap] at w7_sz hF7
   have us7 := us6.st hB7 hF7
   have pm7 := pm6.st stb_method hF7 (by omega)
   have hle6 := F6.le
   rw [wrap_id (by omega) (by omega)]
   refine ⟨trivial,⟨by omega,by omega,⟨p',_,c'⟩,_,_,by omega,?_,?_,pm7,us7⟩,by dsimp only; omega⟩
   ·simp only [List.length_append,List.length_cons,List.length_nil,List.nil_append]; omega
   ·intro i y hy
    by_cases hi : i < ms.length
    ·rw [List.getElem?_append_left hi] at hy; exact hmt i y hy
    ·rw [List.getElem?_append_right (by omega)] at hy
     have hi2 : i = ms.length := by
      have := (List.getElem?_eq_some_iff.1 hy).1
      simp at this; omega
     subst hi2
     simp at hy; subst hy
     rw [hml]
     have e : mArgsOf.getD t3.toNat 0 = [0,1,1,2,0,0].getD t3.toNat 0 := by
      have : ∀ k : Nat,k < 6 -> mArgsOf.getD k 0 = [(0 : Int),1,1,2,0,0].getD k 0 := by decide
      exact this _ (by omega)
     rw [e]; exact hTM
  ·rw [wv_eq]
   replace us : US N (fun y => M <= y) t w.heap.size b1 (Q2 b nb b2 m d l xs) w.heap w1.drew.heap (ucells nb d d2 hd0) := us
   replace pm : PX eMethod IsMethod (fun y => M <= y /\ y < w1.drew.heap.size) w1.drew.heap d2.p d2.n d2.c l2 ms [] [] := pm
   replace hMs : M <= w1.drew.heap.size := hMs
   generalize w1.drew = w2 at *
   refine ⟨d2.p,d2.n,d2.c,by rw [us.bb.cell]; rfl,d.p,d.n,d.c,by rw [us.bb.cell]; rfl,d.p,d.n,d.c,by rw [us.bb.cell]; rfl,d.p,d.n,d.c,by rw [us.bb.cell]; rfl,?_⟩
   refine (keep_method_ok us.tape (by omega) (classes := (d.n : Int)) (by omega) false).mono ?_; rintro _ w3 ⟨r3,x3,rfl,hIs3,hTM3,hT3,F3⟩
   have us3 := us.go hT3 (F3.mono fun y _ e => .inr e)
   have pm3 := pm.call stb_method F3 (by omega) (by omega) hIs3
   have hle3 := F3.le
   refine ⟨_,_,_,_,_,_,_,_,rfl,⟨by rw [us3.bb.cell]; rfl,by rw [us3.bb.cell]; rfl,by rw [us3.bb.cell]; rfl,by rw [us3.bb.cell]; rfl,trivial⟩,?_⟩
   refine (keep_method_ok us3.tape (by omega) (classes := (d.n : Int)) (by omega) true).mono ?_; rintro _ w4 ⟨r4,x4,rfl,hIs4,hTM4,hT4,F4⟩
   have us4 := us3.go hT4 (F4.mono fun y _ e => .inr e)
   have pm4 := pm3.call stb_method F4 (by omega) (by omega) hIs4
   have hle4 := F4.le
   refine ⟨_,_,_,_,_,_,_,_,rfl,⟨by rw [us4.bb.cell]; rfl,by rw [us4.bb.cell]; rfl,by rw [us4.bb.cell]; rfl,by rw [us4.bb.cell]; rfl,trivial⟩,?_⟩
   refine (keep_method_ok us4.tape (by omega) (classes := (d.n : Int)) (by omega) true).mono ?_; rintro _ w5 ⟨r5,x5,rfl,hIs5,hTM5,hT5,F5⟩
   have us5 := us4.go hT5 (F5.mono fun y _ e => .inr e)
   have pm5 := pm4.call stb_method F5 (by omega) (by omega) hIs5
   have hle5 := F5.le
   refine ⟨_,_,_,_,_,_,_,_,rfl,⟨by rw [us5.bb.cell]; rfl,by rw [us5.bb.cell]; rfl,by rw [us5.bb.cell]; rfl,by rw [us5.bb.cell]; rfl,trivial⟩,?_⟩
   refine newB_i ?_; intro b6 w6 b6_eq hB6 hN6 w6_sz; try simp only [drew_heap',dr_heap] at b6_eq hN6
   have us6 := us5.nw hN6
   refine ⟨⟨by rw [us6.bb.cell]; rfl,by rw [us6.bb.cell]; rfl,by rw [us6.bb.cell]; rfl,by rw [us6.bb.cell]; rfl,trivial⟩,?_⟩
   refine pm5.appz (n2 := 3) ty_method stb_method hN6 (by omega) hB6 rfl (by omega) (by omega) ?_
   intro p' c' w7 pm7 F7
   have us7 := us6.go (us6.tape.fr F7 fun y hy => by omega) (F7.mono fun y _ e => .inl e)
   refine ⟨⟨by rw [us7.bb.cell]; rfl,by rw [us7.bb.cell]; rfl,by rw [us7.bb.cell]; rfl,trivial⟩,?_⟩
   have hb7 := us7.bb
   refine stores_i hb7 (by simp [sets_length]) ?_; intro w8 hB8 hF8 w8_sz; try simp only [drew_heap',dr_heap] at w8_sz hF8
   have us8 := us7.st hB8 hF8
   have pm8 := pm7.st stb_method hF8 (by omega)
   have hle7 := F7.le
   refine ⟨trivial,?_⟩
   have hms9 : (ms ++ ([] ++ [x3] ++ [x4] ++ [x5])).length = 9 /\ ∀ (i : Nat) (y : TMethod),(ms ++ ([] ++ [x3] ++ [x4] ++ [x5]))[i]? = some y -> TMok (d.n : Int) (mArgsOf.getD i 0) y := by
    have h6 : ms.length = 6 := by omega
    refine ⟨by simp [h6],fun i y hy => ?_⟩
    by_cases hi : i < ms.length
    ·rw [List.getElem?_append_left hi] at hy; exact hmt i y hy
    ·rw [List.getElem?_append_right (by omega)] at hy
     have hi2 : i = 6 \/ i = 7 \/ i = 8 := by
      have := (List.getElem?_eq_some_iff.1 hy).1
      simp at this; omega
     rw [h6] at hy
     rcases hi2 with rfl | rfl | rfl
     ·simp at hy; subst hy; exact hTM3
     ·simp at hy; subst hy; exact hTM4
     ·simp at hy; subst hy; exact hTM5
   generalize (ms ++ ([] ++ [x3] ++ [x4] ++ [x5])) = ms9 at *
   have hM8 : M <= w8.heap.size := by omega
   have hcls := us8.q.2
   obtain ⟨M3,hM3⟩ : ∃ M3,M3 = w8.heap.size := ⟨_,rfl⟩
   rw [<- hM3] at pm8 hM8
   have us9 : US N (W3 b2 m M3) t w.heap.size b1 (Q3 b nb M M3 ⟨p',_,c'⟩ _ ms9) w.heap w8.heap (ucells nb d ⟨p',_,c'⟩ hd0) := us8.turn ⟨us8.q.1,pm8⟩ (fun h h' q hF => ⟨⟨q.1.1.fr hF (by unfold W3; omega),q.1.2.fr hF (by unfold W3; omega)⟩,q.2.fr stb_method hF (fun y _ hy e => by unfold W3 at e; omega) (fun y _ hy => hy)⟩) (fun y hy => by unfold W3 at hy; omega)
   obtain ⟨d3,hd3⟩ : ∃ d3 : Hd,d3 = ⟨p',d2.n + 3,c'⟩ := ⟨_,rfl⟩
   obtain ⟨l3,hl3⟩ : ∃ l3,l3 = (l2 ++ ([] ++ [r3] ++ [r4] ++ [r5])) := ⟨_,rfl⟩
   rw [<- hd3,<- hl3] at us9
   refine ⟨fun t4 w' => 1 <= t4 /\ t4 <= (d.n : Int) /\ Ph3 N t w b nb b1 b2 m M M3 d d3 l3 ms9 t4.toNat w',fun t4 _ => (5 - t4).toNat,⟨by omega,by omega,l,xs,by omega,⟨fun i x hx => ⟨(hxl2 i x hx).1,fun _ => ?_,fun _ => (hxl2 i x hx).2⟩,fun i c hc _ => hnil c (List.mem_of_getElem? hc)⟩,by omega,hcls.fr stb_class (Fr.refl (fun _ => False) _) (fun _ _ _ e => e) (fun y _ hy => .inl hy),us9⟩,?_⟩
   ·rw [(hxl2 i x hx).2]; exact .no (.no (.no (.no (.no (.no .nil)))))
   clear hxl2 hnil us9 hcls hM3 pm8 us8 pm7 us7 hb7 hB8 hF8 F7 us6 hB6 hN6 pm5 us5 hIs5 hTM5 F5 hT5 us4 pm4 hIs4 hTM4 hT4 F4 us3 pm3 hIs3 hTM3 hT3 F3 us pm hmt hl3 hd3
   clear hle3 hle4 hle5 hle7 b6_eq w6_sz w8_sz hMs hln
   rintro t4 wa ⟨q1,q2,l,xs,hxs,hcb,hMa,px,us⟩
   refine ⟨d.p,d.n,d.c,by rw [us.bb.cell]; rfl,?_⟩
   refine br_of (fun h4 => ?_) (fun h4 => ?_) <;> simp only [ZJ,ZK,ZQ] at h4
   ·have hr := us.r
    refine (keep_Names_ok wa).mono ?_; rintro _ wb ⟨nb2,rfl,_l1,_l2,hNb⟩
    refine ⟨_,_,_,rfl,?_⟩
    have usb := us.nw hNb
    have hleb := hNb.le
    have pxb := px.fr (V' := V3 b2 m M3 wa.heap.size) stb_class hNb (fun _ _ _ e => e) (fun y _ hy => hy)
    obtain ⟨T,K,hsl,ha,_,hTz,hKz⟩ := pxb
    unfold V3 at hTz hKz
    obtain ⟨x0,hx0⟩ : ∃ x,xs[t4.toNat]? = some x := ⟨_,getD_some (d := default) (by omega)⟩
    obtain ⟨c0,hc0,hIc⟩ := ha.get hx0
    have hcb0 := hcb.2 _ c0 hc0 (Nat.le_refl _)
    have hset : l.set t4.toNat { c0 with binds := hd0 } = l := by
     have e : ({ c0 with binds := hd0 } : CClass) = c0 := by rw [<- hcb0]
     rw [e]; exact set_id hc0
    refine ⟨fun t5 w' => 0 <= t5 /\ t5 <= 6 /\ Ph3i N t w b nb b1 b2 m M M3 wb.heap.size t4.toNat d d3 l3 ms9 T K l xs c0 t5.toNat w',fun t5 _ => (6 - t5).toNat,⟨by omega,by omega,hd0,[],Nat.le_refl _,.nil,by rw [hset]; exact hsl,ha,⟨fun _ => False,Sl.nil,fun _ h => h.elim⟩,usb⟩,?_⟩
    have hmc : wa.heap.size <= wb.heap.size := hleb
    generalize wb.heap.size = mc at *
    clear hset usb hNb us px hleb _l1 _l2 hIc hcb0
    rintro t5 wc ⟨u0,u6,hd,B,hmcc,hBP,hs,ha2,⟨TB,hTB,hTBz⟩,us⟩
    have hTcls : ∀ y,T y -> y < mc := fun y hy => by have := hTz y hy; omega
    refine br_of (fun h5 => ?_) (fun h5 => ?_) <;> simp only [ZJ,ZK,ZQ] at h5
    ·refine us.next _ ?_; intro x9 wd x90 x91 Fd usd
     have hsd := hs.fr (ok' := T) Fd (fun y _ hy e => by have := hTz y hy; omega) (fun y _ hy => hy)
     have had := ha2.mono (R' := IsClass wd.heap K) fun a x r => r.fr Fd (fun y _ hy e => by have := (hKz y hy).1; omega) (fun y _ hy => hy)
     have hTBd := hTB.fr (ok' := TB) Fd (fun y _ hy e => by have := hTBz y hy; omega) (fun y _ hy => hy)
     have hled := Fd.le
     refine br_of (fun h6 => ?_) (fun h6 => ?_)
     ·rw [wv_eq]
      replace usd : US N (W3 b2 m M3) t w.heap.size b1 (Q3 b nb M M3 d3 l3 ms9) w.heap wd.drew.heap (ucells nb d d3 hd0) := usd
      replace hsd : Sl wd.drew.heap T eClass d.p d.n d.c (l.set t4.toNat { c0 with binds := hd }) := hsd
      replace had : All2 (IsClass wd.drew.heap K) l xs := had
      replace hTBd : SlH wd.drew.heap TB eBind hd B := hTBd
      replace hled : wc.heap.size <= wd.drew.heap.size := hled
      generalize wd.drew = we at *
      refine ⟨d.p,d.n,d.c,by rw [usd.bb.cell]; rfl,d.p,d.n,d.c,by rw [usd.bb.cell]; rfl,?_⟩
      refine chk_of (by simp; omega) ?_
      have hk : t4.toNat < l.length := (List.getElem?_eq_some_iff.1 hc0).1
      have hck : (l.set t4.toNat { c0 with binds := hd })[t4.toNat]? = some { c0 with binds := hd } := List.getElem?_set_self hk
      obtain ⟨g,o,hp,hTg,hh⟩ := hsd.hold hck
      rw [hp,onPtr_some]
      refine ⟨hd.p,hd.n,hd.c,hh.2.2.2,?_⟩
      refine newB_i ?_; intro b7 wf b7_eq hBf hNf wf_sz; try simp only [drew_heap',dr_heap] at b7_eq hNf
      have usf := usd.nw hNf
      have hcf : wf.cell? ⟨g,o + t4.toNat * 4 + 3,none⟩ = some (.slice hd.p hd.n hd.c) := cell_fr hh.2.2.2 hNf (fun h => h)
      refine ⟨⟨hcf,by rw [usf.bb.cell,<- hp]; rfl,by rw [usf.bb.cell,<- hp]; rfl,trivial⟩,?_⟩
      have hBl := hBP.len
      have hdl := hTBd.len
      have hTBf := hTBd.fr (ok' := fun y => TB y /\ y < we.heap.size) hNf (fun _ _ _ e => e) (fun y hy e => ⟨e,hy⟩)
      have h2 := Sl.of_blk (E := eBind) (ok := fun y => y = b7) (l := [⟨t5,t5⟩]) hBf rfl (n := 1) rfl (by omega)
      refine append_r ty_bind hTBf h2 (by omega) ?_; intro p7 c7 wg hs7 Fg
      have hleg := Fg.le
      have usg := usf.go (usf.tape.fr Fg fun y hy => by have := hTBz y hy.1; omega) (Fg.mono fun y _ hy => .inl (by have := hTBz y hy.1; unfold W3; omega))
      refine ⟨⟨by rw [usg.bb.cell,<- hp]; rfl,by rw [usg.bb.cell,<- hp]; rfl,trivial⟩,?_⟩
      refine chk_of (by simp; omega) ?_
      rw [onPtr_some]
      have hsg := (hsd.nw hNf).fr (ok' := T) Fg (fun y _ hy e => by have := hTcls y hy; have := hTBz y e.1; omega) (fun y _ hy => hy)
      refine hsg.stc (i := t4.toNat) (j := 3) (vs := [.slice p7 (hd.n + 1) c7]) hck (x' := { c0 with binds := ⟨p7,hd.n + 1,c7⟩ }) (by simp) rfl hp ?_
      intro wh hsh Fh hTg
      rw [List.set_set] at hsh
      have hgz := hTz g hTg
      have hgr : g ≠ b1 /\ N <= g := by omega
      rw [wrap_id (by omega) (by omega)]
      have hleh := Fh.le
      refine ⟨trivial,⟨by omega,by omega,⟨p7,hd.n + 1,c7⟩,B ++ [⟨t5,t5⟩],by omega,?_,hsh,?_,?_,?_⟩,by dsimp only; omega⟩
      ·rw [show (t5 + 1).toNat = t5.toNat + 1 by omega]
       have := BP.yes hBP
       rw [show ((t5.toNat : Nat) : Int) = t5 by omega] at this
       exact this
      ·exact had.mono fun a x r => ((r.nw hNf).fr Fg (fun y _ hy e => by have := (hKz y hy).1; have := hTBz y e.1; omega) (fun y _ hy => hy)).fr Fh (fun y _ hy e => (hKz y hy).2 (e ▸ hTg)) (fun y _ hy => hy)
      ·refine ⟨fun y => Old (fun y => TB y /\ y < we.heap.size) wf.heap y /\ y < wg.heap.size,(hs7.mono fun y hy e => ⟨e,hy⟩).fr Fh (fun y _ hy e => ?_) (fun y _ hy => hy),fun y hy => ?_⟩
       ·have := hTcls g hTg
        rcases hy.1 with h | h
        ·have := hTBz y h.1; omega
        ·omega
       ·rcases hy.1 with h | h
        ·have := hTBz y h.1; have := hy.2; omega
        ·have := hy.2; omega
      ·exact usg.go (usg.tape.fr Fh fun y hy => by omega) (Fh.mono fun y _ hy => .inl (by unfold W3; omega))
     ·rw [wrap_id (by omega) (by omega)]
      refine ⟨⟨by omega,by omega,hd,B,by omega,?_,hsd,had,⟨TB,hTBd,fun y hy => by have := hTBz y hy; omega⟩,usd⟩,by dsimp only; omega⟩
      rw [show (t5 + 1).toNat = t5.toNat + 1 by omega]
      exact .no hBP
    ·have e6 : t5.toNat = 6 := by omega
     rw [e6] at hBP
     rw [wrap_id (by omega) (by omega)]
     refine ⟨⟨by omega,by omega,l.set t4.toNat { c0 with binds := hd },xs.set t4.toNat { x0 with binds := B },by rw [List.length_set]; exact hxs,?_,by omega,?_,us⟩,by dsimp only; omega⟩
     ·rw [show (t4 + 1).toNat = t4.toNat + 1 by omega]
      exact hcb.next hx0 hBP
     ·have hI0 := ha2.at_ _ _ _ hc0 hx0
      have go : ∀ {a : CClass} {x : TClass},IsClass wc.heap K a x -> IsClass wc.heap (fun y => K y \/ TB y) a x := fun r => r.fr (Fr.refl (fun _ => False) _) (fun _ _ _ e => e) (fun y _ hy => .inl hy)
      refine ⟨T,fun y => K y \/ TB y,hs,(ha2.mono fun a x r => go r).set ⟨hI0.name,hI0.super,hI0.fields,hTB.mono fun y _ hy => .inr hy⟩,All2.nil,fun y hy => by have := hTz y hy; unfold V3; omega,fun y hy => ?_⟩
      rcases hy with hy | hy
      ·exact ⟨by have := (hKz y hy).1; unfold V3; omega,(hKz y hy).2⟩
      ·exact ⟨by have := hTBz y hy; unfold V3; omega,fun e => by have := hTBz y hy; have := hTcls y e; omega⟩
   ·have hr := us.r
    refine us.next _ ?_; intro x10 w2 x0 x1 F2 us2; replace x1 := x1 (by omega)
    have hle2 := F2.le
    have us3 : US N (fun y => w2.heap.size <= y) t w.heap.size b1 (Q4 b nb b2 m M M3 wa.heap.size d d3 l xs l3 ms9) w.heap w2.heap (ucells nb d d3 hd0) := us2.turn ⟨us2.q,px.fr stb_class F2 (fun y _ hy e => by unfold V3 at hy; omega) (fun y _ hy => hy)⟩
     (fun h h' q hF => ⟨⟨⟨q.1.1.1.fr hF (by omega),q.1.1.2.fr hF (by omega)⟩,q.1.2.fr stb_method hF (fun y _ hy e => by omega) (fun y _ hy => hy)⟩,q.2.fr stb_class hF (fun y _ hy e => by unfold V3 at hy; omega) (fun y _ hy => hy)⟩) (fun y hy => ⟨by omega,by omega⟩)
    have hn3 : wa.heap.size <= w2.heap.size := hle2
    generalize wa.heap.size = n3 at *
    obtain ⟨M4,hM4⟩ : ∃ M4,M4 = w2.heap.size := ⟨_,rfl⟩
    rw [<- hM4] at us3 hn3
    rw [wrap_id (x := 1 + x10) (by omega) (by omega)]
    have hcb' : ∀ (i : Nat) (x : TClass),xs[i]? = some x -> ClassAt xs i x /\ BP 6 x.binds := fun i x hx => by
     obtain ⟨a1,a2,_⟩ := hcb.1 i x hx
     exact ⟨a1,a2 (by have := (List.getElem?_eq_some_iff.1 hx).1; omega)⟩
    refine ⟨fun t6 w' => 0 <= t6 /\ t6 <= 1 + x10 /\ Ph4 N t w b nb b1 b2 m M M3 n3 M4 d d3 l xs l3 ms9 (1 + x10).toNat t6.toNat w',fun t6 _ => (1 + x10 - t6).toNat,⟨by omega,by omega,hd0,[],[],by omega,rfl,fun o h => by simp at h,PX.nil,us3⟩,?_⟩
    clear us3 us2 us px F2 hcb hle2 hM4
    clear hr
    rintro t6 w3 ⟨r0,r1,d4,l4,os,hMs,hol,hog,po,us⟩
    have hr := us.r
    have hlo := po.len
    refine br_of (fun h6 => ?_) (fun h6 => ?_) <;> simp only [ZJ,ZK,ZQ] at h6
    ·refine ⟨d.p,d.n,d.c,by rw [us.bb.cell]; rfl,?_⟩
     rw [wrap_id (x := (d.n : Int) - 2) (by omega) (by omega)]
     refine us.next _ ?_; intro x16 w4 y0 y1 F4 us4; replace y1 := y1 (by omega)
     refine newB_i ?_; intro b8 w5 b8_eq hB5 hN5 w5_sz; try simp only [drew_heap',dr_heap] at b8_eq hN5
     rw [wrap_id (x := 2 + x16) (by omega) (by omega)]
     refine stores_i hB5 (by simp [sets_length]) ?_; intro w6 hB6 hF6 w6_sz; try simp only [drew_heap',dr_heap] at w6_sz hF6
     simp only [sets,ZH,ZI] at hB6
     have hle4 := F4.le
     have hb8 : w3.heap.size <= b8 := by omega
     have us6 := (us4.nw hN5).go ((us4.tape.nw hN5).fr hF6 fun y hy => by omega) (hF6.mono fun y _ e => .inl (by omega))
     have F6 : Fr (fun y => w3.heap.size <= y \/ y = t) w3.heap w6.heap := ((F4.mono fun y _ e => .inr e).trans' hN5.fr).trans' (hF6.mono fun y _ e => .inl (by omega))
     refine ⟨d.p,d.n,d.c,by rw [us6.bb.cell]; rfl,2 + x16,by rw [hB6.cell]; rfl,?_⟩
     refine chk_of (by simp; omega) ?_
     obtain ⟨y,hy⟩ : ∃ y,xs[(2 + x16).toNat]? = some y := ⟨_,getD_some (d := default) (by omega)⟩
     obtain ⟨a,ha,⟨K,hK⟩,g,o,hp,hg,hh⟩ := us6.q.2.hold hy
     rw [hp,onPtr_some]
     refine ⟨a.fields,hh.2.2.1,?_⟩
     have hfy := (hcb' _ _ hy).1
     have hya : a.fields = y.fields := hK.fields
     have hyd : xs.getD (2 + x16).toNat default = y := by rw [List.getD_eq_getElem?_getD,hy]; rfl
     have hyf : 0 <= y.fields /\ y.fields <= 2 * ((2 + x16).toNat : Int) := by
      rcases hfy.2 with h | h | h <;> omega
     have hyx : (2 + x16).toNat <= 4 := by omega
     refine join_of (fun (v : Int) w' => ∃ cls : Int,Bk w'.heap b8 [.int .i64 cls,.slice none 0 0] /\ 0 <= v /\ v <= 62 /\ 1 <= cls /\ cls < xs.length /\ (1 < cls -> v = (xs.getD cls.toNat default).fields) /\ US N (fun y => M4 <= y) t w.heap.size b1 (Q4 b nb b2 m M M3 n3 d d3 l xs l3 ms9) w.heap w'.heap (ucells nb d d3 d4) /\ Fr (fun y => w3.heap.size <= y \/ y = t) w3.heap w'.heap) ?_ ?_
     ·clear hfy hya hyd hyf hyx hy hK hh ha hp hg F6 us6 hB6 hF6 hB5 hN5 us4 F4 us
      clear w5_sz w6_sz b8_eq y0 y1 hle4
      rintro v w7 ⟨cls,hB7,v0,v1,c0,c1,c2,us7,F7⟩
      obtain ⟨n,hn⟩ : ∃ n,n = (1 + x10).toNat := ⟨_,rfl⟩
      refine ⟨fun t8 w' => ∃ (hd : Hd) (vs : List TVal),0 <= t8 /\ (vs.length : Int) + t8 = v /\ b8 < w'.heap.size /\ Bk w'.heap b8 [.int .i64 cls,.slice hd.p hd.n hd.c] /\ (∀ v ∈ vs,uValue v n = true) /\ (∃ TB : Nat -> Prop,SlH w'.heap TB eVal hd vs /\ ∀ y,TB y -> b8 < y /\ y < w'.heap.size) /\ US N (fun y => M4 <= y) t w.heap.size b1 (Q4 b nb b2 m M M3 n3 d d3 l xs l3 ms9) w.heap w'.heap (ucells nb d d3 d4) /\ Fr (fun y => w3.heap.size <= y \/ y = t) w3.heap w'.heap,fun t8 _ => t8.toNat,⟨hd0,[],v0,by simp,hB7.lt,hB7,by simp,⟨fun _ => False,Sl.nil,fun _ h => h.elim⟩,us7,F7⟩,?_⟩
      clear hB7 us7 F7
      clear w7
      rintro t8 w7 ⟨hd,vs,s0,s1,hlt,hB7,hvs,⟨TB,hTB,hTBz⟩,us7,F7⟩
      have hdl := hTB.len
      refine br_of (fun h8 => ?_) (fun h8 => ?_) <;> simp only [ZJ,ZK,ZQ] at h8
      ·rw [wv_eq]
       have hlt8 : w7.drew.heap.size = w7.heap.size := rfl
       replace hB7 : Bk w7.drew.heap b8 _ := hB7
       replace hTB : SlH w7.drew.heap TB eVal hd vs := hTB
       replace us7 : US N (fun y => M4 <= y) t w.heap.size b1 (Q4 b nb b2 m M M3 n3 d d3 l xs l3 ms9) w.heap w7.drew.heap (ucells nb d d3 d4) := us7
       replace F7 : Fr (fun y => w3.heap.size <= y \/ y = t) w3.heap w7.drew.heap := F7
       generalize w7.drew = w8 at *
       refine ⟨hd.p,hd.n,hd.c,by rw [hB7.cell]; rfl,?_⟩
       refine us7.next _ ?_; intro x19 w9 z0 z1 F9 us9; replace z1 := z1 (by omega)
       have hB9 := hB7.fr F9 (by omega)
       have hTB9 := hTB.fr (ok' := fun y => TB y /\ y < w8.heap.size) F9 (fun y _ hy e => by have := hTBz y hy; omega) (fun y hy e => ⟨e,hy⟩)
       have F9' := F7.trans' (F9.mono fun y _ e => .inr e)
       refine ⟨⟨by rw [hB9.cell]; rfl,trivial⟩,?_⟩
       rw [wrap_id (x := x19 - 400) (by omega) (by omega)]
       refine us9.next _ ?_; intro x20 w10 z2 z3 F10 us10; replace z3 := z3 (by omega)
       have hB10 := hB9.fr F10 (by omega)
       have hTB10 := hTB9.fr (ok' := fun y => TB y /\ y < w8.heap.size) F10 (fun y _ hy e => by have := hTBz y hy.1; omega) (fun y hy e => e)
       have F10' := F9'.trans' (F10.mono fun y _ e => .inr e)
       refine ⟨⟨by rw [hB10.cell]; rfl,trivial⟩,?_⟩
       have hle9 := F9.le; have hle10 := F10.le
       have hV : ∀ z ∈ ([⟨0,0⟩,⟨1,0⟩,⟨2,0⟩,⟨3,x19 - 400⟩,⟨4,x20⟩] : List TVal),uValue z n = true := by
        intro z hz
        simp only [List.mem_cons,List.not_mem_nil,or_false] at hz
        rcases hz with rfl | rfl | rfl | rfl | rfl <;> simp [uValue] <;> omega
       refine ⟨?_,?_⟩
       ·refine newB_i ?_; intro b9 w11 b9_eq hB11 hN11 w11_sz; try simp only [drew_heap',dr_heap] at b9_eq hN11
        have us11 := us10.nw hN11
        have hB8a := hB10.nw hN11
        have hTB11 := hTB10.nw hN11
        have hle11 := hN11.le
        refine ⟨⟨by rw [hB8a.cell]; rfl,trivial⟩,?_⟩
        refine us11.next _ ?_; intro x21 w12 z4 z5 F12 us12; replace z5 := z5 (by omega)
        have hB9x := hB11.fr F12 (by omega)
        have hB8b := hB8a.fr F12 (by omega)
        have hTB12 := hTB11.fr (ok' := fun y => TB y /\ y < w8.heap.size) F12 (fun y _ hy e => by have := hTBz y hy.1; omega) (fun y hy e => e)
        have F12' := (F10'.trans' hN11.fr).trans' (F12.mono fun y _ e => .inr e)
        have hle12 := F12.le
        refine ⟨⟨by rw [hB8b.cell]; rfl,trivial⟩,?_⟩
        refine chk_of (by simp; omega) ?_
        have hV9 : Sl w12.heap (fun y => y = b9) eVal (some ⟨b9,0,none⟩) 5 5 [⟨0,0⟩,⟨1,0⟩,⟨2,0⟩,⟨3,x19 - 400⟩,⟨4,x20⟩] := Sl.of_blk (ok := fun y => y = b9) (n := 5) (E := eVal) (l := [⟨0,0⟩,⟨1,0⟩,⟨2,0⟩,⟨3,x19 - 400⟩,⟨4,x20⟩]) hB9x rfl rfl (by omega)
        obtain ⟨y,hy⟩ : ∃ y,([⟨0,0⟩,⟨1,0⟩,⟨2,0⟩,⟨3,x19 - 400⟩,⟨4,x20⟩] : List TVal)[x21.toNat]? = some y := ⟨_,getD_some (d := default) (by simp; omega)⟩
        have hyV := hV y (List.mem_of_getElem? hy)
        obtain ⟨g,o,hp,_,hh⟩ := hV9.hold hy
        simp only [Z3,ZG,and_true] at hp
        obtain ⟨rfl,rfl⟩ := hp
        refine ⟨y.kind,y.n,hh,?_⟩
        refine newB_i ?_; intro b10 wf b10_eq hBf hNf wf_sz; try simp only [drew_heap',dr_heap] at b10_eq hNf
        have usf := US.nw us12 hNf
        have hBf8 := Bk.nw hB8b hNf
        have hTBf := Sl.fr (ok' := fun y => TB y /\ y < w8.heap.size) hTB12 hNf (fun _ _ _ e => e) (fun y hy e => e)
        have Ff := Fr.trans' F12' hNf.fr
        have hlef := hNf.le
        refine ⟨⟨by rw [hBf8.cell]; rfl,trivial⟩,?_⟩
        have h2 := Sl.of_blk (E := eVal) (ok := fun y => y = b10) (l := [⟨y.kind,y.n⟩]) hBf rfl (n := 1) rfl (by omega)
        refine append_r ty_val hTBf h2 (by omega) ?_; intro p7 c7 wg hs7 Fg
        have hleg := Fg.le
        have hTBz' : ∀ y,TB y -> b8 < y := fun y hy => (hTBz y hy).1
        have usg := usf.go (usf.tape.fr Fg fun y hy => by have := hTBz' y hy.1; omega) (Fg.mono fun y _ hy => .inl (by have := hTBz' y hy.1; omega))
        have hBg := hBf8.fr Fg (fun e => by have := hTBz' b8 e.1; omega)
        have Fgg := Ff.trans' (Fg.mono fun y _ hy => .inl (by have := hTBz' y hy.1; omega))
        refine ⟨trivial,?_⟩
        refine stores_i hBg (by simp [sets_length]) ?_; intro wh hBh hFh wh_sz; try simp only [drew_heap',dr_heap] at wh_sz hFh
        simp only [sets,ZH,ZI] at hBh
        have hleh := hFh.le
        have ush := usg.go (usg.tape.fr hFh fun y hy => by omega) (hFh.mono fun y _ hy => .inl (by omega))
        have Fh := Fgg.trans' (hFh.mono fun y _ hy => .inl (by omega))
        rw [wrap_id (by omega) (by omega)]
        refine ⟨trivial,⟨⟨p7,hd.n + 1,c7⟩,vs ++ [⟨y.kind,y.n⟩],by omega,by simp only [List.length_append,List.length_cons,List.length_nil]; omega,by omega,hBh,?_,⟨fun y => Old (fun y => TB y /\ y < w8.heap.size) wf.heap y /\ y < wg.heap.size,(hs7.mono fun y hy e => ⟨e,hy⟩).fr hFh (fun y _ hy e => ?_) (fun y _ hy => hy),fun y hy => ?_⟩,ush,Fh⟩,by dsimp only; omega⟩
        ·intro v hv
         rcases List.mem_append.1 hv with hv | hv
         ·exact hvs v hv
         ·rw [List.mem_singleton.1 hv]; exact hyV
        ·rcases hy.1 with h | h
         ·have := hTBz' y h.1; omega
         ·omega
        ·rcases hy.1 with h | h
         ·have := hTBz' y h.1; have := h.2; omega
         ·have := hy.2; omega
       ·refine us10.next _ ?_; intro x21 w11 z4 z5 F11 us11; replace z5 := z5 (by omega)
        have hB8a := hB10.fr F11 (by omega)
        have hTB11 := hTB10.fr (ok' := fun y => TB y /\ y < w8.heap.size) F11 (fun y _ hy e => by have := hTBz y hy.1; omega) (fun y hy e => e)
        have F11' := F10'.trans' (F11.mono fun y _ e => .inr e)
        have hle11 := F11.le
        refine ⟨⟨by rw [hB8a.cell]; rfl,trivial⟩,?_⟩
        refine newB_i ?_; intro b9 w12 b9_eq hB9x hN12 w12_sz; try simp only [drew_heap',dr_heap] at b9_eq hN12
        have us12 := us11.nw hN12
        have hB8b := hB8a.nw hN12
        have hTB12 := hTB11.nw hN12
        have F12' := F11'.trans' hN12.fr
        have hle12 := hN12.le
        refine ⟨⟨by rw [hB8b.cell]; rfl,trivial⟩,?_⟩
        refine chk_of (by simp; omega) ?_
        have hV9 : Sl w12.heap (fun y => y = b9) eVal (some ⟨b9,0,none⟩) 5 5 [⟨0,0⟩,⟨1,0⟩,⟨2,0⟩,⟨3,x19 - 400⟩,⟨4,x20⟩] := Sl.of_blk (ok := fun y => y = b9) (n := 5) (E := eVal) (l := [⟨0,0⟩,⟨1,0⟩,⟨2,0⟩,⟨3,x19 - 400⟩,⟨4,x20⟩]) hB9x rfl rfl (by omega)
        obtain ⟨y,hy⟩ : ∃ y,([⟨0,0⟩,⟨1,0⟩,⟨2,0⟩,⟨3,x19 - 400⟩,⟨4,x20⟩] : List TVal)[x21.toNat]? = some y := ⟨_,getD_some (d := default) (by simp; omega)⟩
        have hyV := hV y (List.mem_of_getElem? hy)
        obtain ⟨g,o,hp,_,hh⟩ := hV9.hold hy
        simp only [Z3,ZG,and_true] at hp
        obtain ⟨rfl,rfl⟩ := hp
        refine ⟨y.kind,y.n,hh,?_⟩
        refine newB_i ?_; intro b10 wf b10_eq hBf hNf wf_sz; try simp only [drew_heap',dr_heap] at b10_eq hNf
        have usf := US.nw us12 hNf
        have hBf8 := Bk.nw hB8b hNf
        have hTBf := Sl.fr (ok' := fun y => TB y /\ y < w8.heap.size) hTB12 hNf (fun _ _ _ e => e) (fun y hy e => e)
        have Ff := Fr.trans' F12' hNf.fr
        have hlef := hNf.le
        refine ⟨⟨by rw [hBf8.cell]; rfl,trivial⟩,?_⟩
        have h2 := Sl.of_blk (E := eVal) (ok := fun y => y = b10) (l := [⟨y.kind,y.n⟩]) hBf rfl (n := 1) rfl (by omega)
        refine append_r ty_val hTBf h2 (by omega) ?_; intro p7 c7 wg hs7 Fg
        have hleg := Fg.le
        have hTBz' : ∀ y,TB y -> b8 < y := fun y hy => (hTBz y hy).1
        have usg := usf.go (usf.tape.fr Fg fun y hy => by have := hTBz' y hy.1; omega) (Fg.mono fun y _ hy => .inl (by have := hTBz' y hy.1; omega))
        have hBg := hBf8.fr Fg (fun e => by have := hTBz' b8 e.1; omega)
        have Fgg := Ff.trans' (Fg.mono fun y _ hy => .inl (by have := hTBz' y hy.1; omega))
        refine ⟨trivial,?_⟩
        refine stores_i hBg (by simp [sets_length]) ?_; intro wh hBh hFh wh_sz; try simp only [drew_heap',dr_heap] at wh_sz hFh
        simp only [sets,ZH,ZI] at hBh
        have hleh := hFh.le
        have ush := usg.go (usg.tape.fr hFh fun y hy => by omega) (hFh.mono fun y _ hy => .inl (by omega))
        have Fh := Fgg.trans' (hFh.mono fun y _ hy => .inl (by omega))
        rw [wrap_id (by omega) (by omega)]
        refine ⟨trivial,⟨⟨p7,hd.n + 1,c7⟩,vs ++ [⟨y.kind,y.n⟩],by omega,by simp only [List.length_append,List.length_cons,List.length_nil]; omega,by omega,hBh,?_,⟨fun y => Old (fun y => TB y /\ y < w8.heap.size) wf.heap y /\ y < wg.heap.size,(hs7.mono fun y hy e => ⟨e,hy⟩).fr hFh (fun y _ hy e => ?_) (fun y _ hy => hy),fun y hy => ?_⟩,ush,Fh⟩,by dsimp only; omega⟩
        ·intro v hv
         rcases List.mem_append.1 hv with hv | hv
         ·exact hvs v hv
         ·rw [List.mem_singleton.1 hv]; exact hyV
        ·rcases hy.1 with h | h
         ·have := hTBz' y h.1; omega
         ·omega
        ·rcases hy.1 with h | h
         ·have := hTBz' y h.1; have := h.2; omega
         ·have := hy.2; omega
      ·refine ⟨d4.p,d4.n,d4.c,by rw [us7.bb.cell]; rfl,?_⟩
       refine ⟨cls,hd.p,hd.n,hd.c,hB7.holds,?_⟩
       refine newB_i ?_; intro b13 w8 b13_eq hB8 hN8 w8_sz; try simp only [drew_heap',dr_heap] at b13_eq hN8
       have us8 := us7.nw hN8
       have po7 := po.fr (V' := fun y => M4 <= y /\ y < w3.heap.size) stb_obj F7 (fun y _ hy e => by omega) (fun y _ hy => hy)
       have po8 := po7.pend stb_obj (K2 := TB) (a := ⟨cls,hd⟩) (b := ⟨cls,vs⟩) ⟨rfl,hTB⟩ (fun y hy => by have := hTBz y hy; omega)
       have hle7 := F7.le
       have po9 := po8.fr (V' := fun y => M4 <= y /\ y < w7.heap.size) stb_obj (Fr.refl (fun _ => False) _) (fun _ _ _ e => e) (fun y _ hy => by
        rcases hy with hy | hy
        ·omega
        ·have := hTBz y hy; omega)
       refine po9.appz (n2 := 1) ty_obj stb_obj hN8 (by omega) hB8 rfl (by omega) (by omega) ?_
       intro p9 c9 w9 po10 F9
       have us9 := us8.go (us8.tape.fr F9 fun y hy => by omega) (F9.mono fun y _ e => .inl e)
       have hb9 := us9.bb
       have hle9 := F9.le
       refine stores_i hb9 (by simp [sets_length]) ?_; intro w10 hB10 hF10 w10_sz; try simp only [drew_heap',dr_heap] at w10_sz hF10
       have us10 := us9.st hB10 hF10
       have po11 := po10.st stb_obj hF10 (by omega)
       rw [wrap_id (by omega) (by omega)]
       refine ⟨⟨by omega,by omega,⟨p9,_,c9⟩,_,_,by omega,?_,?_,po11,us10⟩,by dsimp only; omega⟩
       ·simp only [List.length_append,List.length_cons,List.length_nil,List.nil_append]; omega
       ·intro o ho
        rcases List.mem_append.1 ho with ho | ho
        ·exact hog o ho
        ·simp at ho; subst ho
         refine ⟨⟨c0,by simp only; omega⟩,by simp only; omega,fun h => ?_,?_⟩
         ·have := c2 h
          simp only
          omega
         ·rw [<- hn]; exact hvs
     ·intro J hJ
      refine br_of (fun h7 => ?_) (fun h7 => ?_)
      ·refine us6.next _ ?_; intro x23 w7 _ _ F7 us7
       have hB7 := hB6.fr F7 (by omega)
       have F7' := F6.trans' (F7.mono fun y _ e => .inr e)
       refine br_of (fun h8 => ?_) (fun h8 => ?_)
       ·refine us7.next _ ?_; intro x24 w8 z0 z1 F8 us8; replace z1 := z1 (by omega)
        have hB8 := hB7.fr F8 (by omega)
        have F8' := F7'.trans' (F8.mono fun y _ e => .inr e)
        refine stores_i hB8 (by simp [sets_length]) ?_; intro w9 hB9 hF9 w9_sz; try simp only [drew_heap',dr_heap] at w9_sz hF9
        simp only [sets,ZH,ZI] at hB9
        exact hJ _ _ ⟨1,hB9,by omega,by omega,by omega,by omega,fun h => by omega,us8.go (us8.tape.fr hF9 fun y hy => by omega) (hF9.mono fun y _ e => .inl (by omega)),F8'.trans' (hF9.mono fun y _ e => .inl (by omega))⟩
       ·exact hJ _ _ ⟨2 + x16,hB7,by omega,by omega,by omega,by omega,fun _ => by rw [hyd]; exact hya,us7,F7'⟩
      ·exact hJ _ _ ⟨2 + x16,hB6,by omega,by omega,by omega,by omega,fun _ => by rw [hyd]; exact hya,us6,F6⟩
    ·refine ⟨_,_,_,_,_,_,_,_,_,_,_,_,6,us.bb.holds,?_⟩
     have hbq := us.q.1.1.1
     refine stores_i hbq (by simp [sets_length]) ?_; intro w4 hB4 hF4 w4_sz; try simp only [drew_heap',dr_heap] at w4_sz hF4
     simp only [sets,ZH,ZI] at hB4
     refine ⟨_,_,_,_,_,_,_,_,_,_,_,_,6,hB4.holds,?_⟩
     obtain ⟨⟨⟨_,hnb⟩,pm⟩,pc⟩ := us.q
     have hnb4 := hnb.fr hF4 (by omega)
     have pm4 := pm.fr (V' := fun y => M <= y /\ y < M3) stb_method hF4 (fun y _ hy e => by omega) (fun y _ hy => hy)
     have pc4 := pc.fr (V' := V3 b2 m M3 n3) stb_class hF4 (fun y _ hy e => by unfold V3 at hy; omega) (fun y _ hy => hy)
     have po4 := po.fr (V' := fun y => M4 <= y /\ y < w3.heap.size) stb_obj hF4 (fun y _ hy e => by omega) (fun y _ hy => hy)
     unfold V3 at pc4
     have fin : ∀ {α β : Type} {E : Enc α} {R : Hp -> (Nat -> Prop) -> α -> β -> Prop} {V : Nat -> Prop} {p : Option Addr} {n c : Nat} {l : List α} {xs : List β},Stb R -> PX E R V w4.heap p n c l xs [] [] -> (∀ y,V y -> w.heap.size <= y) -> ∃ l,Sl w4.heap (fun y => w.heap.size <= y) E p n c l /\ All2 (R w4.heap fun y => w.heap.size <= y) l xs := by
      intro α β E R V p n c l xs hR ⟨T,K,h1,h2,_,h4,h5⟩ hV
      exact ⟨l,h1.mono fun y _ hy => hV y (h4 y hy),h2.mono fun a b r => hR.fr r (Fr.refl (fun _ => False) _) (fun _ _ _ e => e) fun y _ hy => hV y (h5 y hy).1⟩
     refine ⟨⟨⟨some ⟨nb,0,none⟩,6,6⟩,d,d3,d4,6⟩,⟨keepNames,xs,ms9,os,6⟩,rfl,⟨Sl.of_blk (ok := fun y => w.heap.size <= y) (n := 6) hnb4 (by omega) rfl (by omega),fin stb_class pc4 (fun y hy => by omega),fin stb_method pm4 (fun y hy => by omega),fin stb_obj po4 (fun y hy => by omega),rfl⟩,⟨rfl,⟨by show 3 <= xs.length; omega,by show xs.length <= 5; omega,hcb'⟩,⟨hms9.1,fun i x hx => by rw [show (((⟨keepNames,xs,ms9,os,6⟩ : TUnit).classes.length : Nat) : Int) = (d.n : Int) by show (xs.length : Int) = _; omega]; exact hms9.2 i x hx⟩,⟨by show 1 <= os.length; omega,by show os.length <= 5; omega,fun o ho => ?_⟩,rfl⟩,us.tape.fr hF4 fun y hy => by omega,(us.fr.trans' (hF4.mono fun y _ e => .inl (by omega))).mono fun y hy e => by omega⟩
     have := hog o ho
     rw [show (1 + x10).toNat = os.length by omega] at this
     exact this
end
end
section
section
variable {u : TUnit} {π : TPool} {top : List Int} {q : TQueue}
theorem PInvX.push (h : PInv u π top q) (i v : Int) : PInv u (pPush π i v) top q := by
 unfold pPush
 split
 ·rename_i hc
  have hg := h.good i hc.1
  exact h.put (by simp) hc.1 ⟨hg.m,hg.pc,hg.sl,by simp; omega⟩ rfl
 ·exact h
theorem PInvX.pop (h : PInv u π top q) (i : Int) : PInv u (pPop π i) top q := by
 unfold pPop
 split
 ·rename_i hc
  have hg := h.good i hc
  exact h.put (by simp) hc ⟨hg.m,hg.pc,hg.sl,by have := hg.st; simp; omega⟩ rfl
 ·exact h
theorem PInvX.pops (h : PInv u π top q) (i : Int) : ∀ n,PInv u (pPops π i n) top q
 | 0 => h
 | n + 1 => (h.pops i n).pop i
theorem PInvX.slot (h : PInv u π top q) (i k v : Int) : PInv u (pSlot π i k v) top q := by
 unfold pSlot
 split
 ·rename_i hc
  have hg := h.good i hc.1
  exact h.put (by simp) hc.1 ⟨hg.m,hg.pc,by simpa using hg.sl,hg.st⟩ rfl
 ·exact h
theorem PInvX.goto (h : PInv u π top q) (i pc : Int) (hp : pIs π i = true -> PcOk (u.me (π.fr i).method).code pc) : PInv u (pGoto π i pc) top q := by
 unfold pGoto
 split
 ·rename_i hc
  have hg := h.good i hc
  exact h.put (by simp) hc ⟨hg.m,hp hc,hg.sl,hg.st⟩ rfl
 ·exact h
theorem PInvX.gotoX (h : PInv u π top q) {i : Int} (pc : Int) : PInvX [i] u (pGoto π i pc) top q := by
 unfold pGoto
 split
 ·rename_i hc; exact h.putX hc rfl
 ·exact h.weak
theorem PInvX.goto1 {i : Int} (h : PInvX [i] u π top q) (pc : Int) (hi : pIs π i = true) (hg : FGood u { π.fr i with pc := pc }) : PInv u (pGoto π i pc) top q := by
 unfold pGoto
 rw [if_pos hi]
 exact h.put (by simp) hi hg rfl
end
end
section
section
variable {α : Type}
structure WFX (X : List Int) (O : StoreOps α) (B : Nat) (σ : TM α) : Prop where
 g : UGood σ.u
 by_ : ∀ m ∈ σ.u.methods,Bytes m.code
 d : σ.dicts = uDicts σ.u
 p : PInvX X σ.u σ.pool σ.top σ.queue
 kept : σ.kept.length = 24
 copied : σ.copied.length = 24
 cp : ∀ k : Nat,0 <= σ.copied.getD k 0 /\ σ.copied.getD k 0 <= 4 * (B : Int)
 ca : CacheOk σ.u σ.cache
 ev : σ.events.length <= B
 sz : O.size σ.s <= B
abbrev WF (O : StoreOps α) (B : Nat) (σ : TM α) : Prop := WFX [] O B σ
end
end
section
section
variable {α : Type}
structure SzOk (O : StoreOps α) : Prop where
 A : ∀ (σ : α) (c f : Int),O.size (O.alloc σ c f).2 <= O.size σ + 1
 G : ∀ (σ : α) (d i : Int),O.size (O.get σ d i).2 <= O.size σ
 P : ∀ (σ : α) (d i v : Int),O.size (O.put σ d i v).2 <= O.size σ
 C : ∀ (σ : α) (d : Int),O.size (O.cls σ d).2 <= O.size σ
 F : ∀ (σ : α) (d : Int),O.size (O.flds σ d).2 <= O.size σ
 S : ∀ (σ : α) (a b : Int),O.size (O.swap σ a b).2 <= O.size σ
theorem StoreSp.sz {O : StoreOps α} {st : TypeId} {I : Hp -> (Nat -> Prop) -> Value -> α -> Prop} (sp : StoreSp O st I) : SzOk O := ⟨sp.szA,sp.szG,sp.szP,sp.szC,sp.szF,sp.szS⟩
structure Sm (O : StoreOps α) (σ σ' : TM α) : Prop where
 eq : σ' = { σ with s := σ'.s }
 sz : O.size σ'.s <= O.size σ.s
variable {O : StoreOps α} {σ σ1 σ2 : TM α}
theorem Sm.refl (σ : TM α) : Sm O σ σ := ⟨rfl,Nat.le_refl _⟩
theorem Sm.trans (h : Sm O σ σ1) (h' : Sm O σ1 σ2) : Sm O σ σ2 := by
 have e := congrArg (fun τ : TM α => ({ τ with s := σ2.s } : TM α)) h.eq
 exact ⟨h'.eq.trans e,Nat.le_trans h'.sz h.sz⟩
theorem Sm.u (h : Sm O σ σ1) : σ1.u = σ.u := by rw [h.eq]
theorem Sm.pool (h : Sm O σ σ1) : σ1.pool = σ.pool := by rw [h.eq]
theorem Sm.queue (h : Sm O σ σ1) : σ1.queue = σ.queue := by rw [h.eq]
theorem Sm.top (h : Sm O σ σ1) : σ1.top = σ.top := by rw [h.eq]
theorem Sm.copied (h : Sm O σ σ1) : σ1.copied = σ.copied := by rw [h.eq]
theorem Sm.events (h : Sm O σ σ1) : σ1.events = σ.events := by rw [h.eq]
theorem Sm.cls (hz : SzOk O) (σ : TM α) (d : Int) : Sm O σ (mCls O σ d).2 := ⟨rfl,hz.C _ _⟩
theorem Sm.get (hz : SzOk O) (σ : TM α) (d i : Int) : Sm O σ (mGet O σ d i).2 := ⟨rfl,hz.G _ _ _⟩
theorem Sm.put (hz : SzOk O) (σ : TM α) (d i v : Int) : Sm O σ (mPut O σ d i v).2 := ⟨rfl,hz.P _ _ _ _⟩
theorem Sm.flds (hz : SzOk O) (σ : TM α) (d : Int) : Sm O σ (mFlds O σ d).2 := ⟨rfl,hz.F _ _⟩
theorem Sm.swap (hz : SzOk O) (σ : TM α) (a b : Int) : Sm O σ (mSwap O σ a b).2 := ⟨rfl,hz.S _ _ _⟩
theorem Sm.object (hz : SzOk O) (σ : TM α) (w : Int) : Sm O σ (mObject O σ w).2 := by
 unfold mObject
 split
 ·exact Sm.refl _
 ·split <;> exact Sm.cls hz _ _
theorem Sm.klass (hz : SzOk O) (σ : TM α) (w : Int) : Sm O σ (mClass O σ w).2 := by
 unfold mClass
 split
 ·exact (Sm.object hz _ _).trans (Sm.cls hz _ _)
 ·exact Sm.object hz _ _
theorem Sm.said (hz : SzOk O) (σ : TM α) (w : Int) : Sm O σ (mSaid O σ w).2 := by
 unfold mSaid
 split
 ·exact Sm.refl _
 ·split
  ·exact Sm.refl _
  ·split
   ·exact Sm.refl _
   ·split
    ·exact (Sm.object hz _ _).trans (Sm.cls hz _ _)
    ·exact Sm.object hz _ _
theorem Sm.op (hz : SzOk O) (σ : TM α) (w : Int) : Sm O σ (dOpen O σ w).2 := by
 unfold dOpen
 split
 ·exact Sm.object hz _ _
 ·split <;> exact (Sm.object hz _ _).trans (Sm.cls hz _ _)
theorem Sm.mkPut (hz : SzOk O) (σ : TM α) (d : Int) (l : List Int) : ∀ k,Sm O σ (mkPut O σ d l k)
 | 0 => Sm.refl _
 | k + 1 => (Sm.mkPut hz σ d l k).trans (Sm.put hz _ _ _ _)
theorem Sm.mkGets (hz : SzOk O) (σ : TM α) (d : Int) : ∀ k,Sm O σ (mkGets O σ d k).2
 | 0 => Sm.refl _
 | k + 1 => (Sm.mkGets hz σ d k).trans (Sm.get hz _ _ _)
theorem Sm.copyN (hz : SzOk O) (σ : TM α) (a b i : Int) : ∀ k,Sm O σ (mCopyN O σ a b i k)
 | 0 => Sm.refl _
 | k + 1 => (Sm.copyN hz σ a b i k).trans ((Sm.get hz _ _ _).trans (Sm.put hz _ _ _ _))
theorem Sm.block (hz : SzOk O) (σ : TM α) (w a : Int) : Sm O σ (dBlock O σ w a).2 := by
 unfold dBlock
 dsimp only
 split
 ·exact Sm.object hz _ _
 ·split
  ·exact (Sm.object hz _ _).trans (Sm.cls hz _ _)
  ·exact ((Sm.object hz _ _).trans (Sm.cls hz _ _)).trans (Sm.mkGets hz _ _ _)
theorem dBlock_fit (σ : TM α) (w a : Int) (h : (dBlock O σ w a).1.2 = true) : (0 <= (wNum (dBlock O σ w a).1.1.a).1 /\ (wNum (dBlock O σ w a).1.1.a).1 < σ.u.methods.length) /\ (σ.u.me (wNum (dBlock O σ w a).1.1.a).1).args = a := by
 unfold dBlock at h ⊢
 dsimp only at h ⊢
 split at h
 ·cases h
 ·rename_i h1
  rw [if_neg h1]
  split at h
  ·cases h
  ·rename_i h2
   rw [if_neg h2]
   simp only [Bool.and_eq_true,ZJ] at h
   exact ⟨⟨h.1,h.2.1⟩,h.2.2⟩
variable {X Y : List Int} {B B' : Nat}
theorem WFX.mono (h : WFX X O B σ) (hB : B <= B') : WFX X O B' σ := ⟨h.g,h.by_,h.d,h.p,h.kept,h.copied,fun k => by have := h.cp k; omega,h.ca,Nat.le_trans h.ev hB,Nat.le_trans h.sz hB⟩
theorem WFX.weak (h : WF O B σ) : WFX X O B σ := ⟨h.g,h.by_,h.d,h.p.weak,h.kept,h.copied,h.cp,h.ca,h.ev,h.sz⟩
theorem WFX.s (h : WFX X O B σ) {s : α} (hs : O.size s <= B) : WFX X O B { σ with s := s } := ⟨h.g,h.by_,h.d,h.p,h.kept,h.copied,h.cp,h.ca,h.ev,hs⟩
theorem WFX.sm (h : WFX X O B σ) (s : Sm O σ σ1) : WFX X O B σ1 := by
 rw [s.eq]; exact h.s (Nat.le_trans s.sz h.sz)
theorem WFX.chg (h : WFX X O B σ) {π : TPool} {top : List Int} {q : TQueue} (hp : PInvX Y σ.u π top q) : WFX Y O B { σ with pool := π,top := top,queue := q } := ⟨h.g,h.by_,h.d,hp,h.kept,h.copied,h.cp,h.ca,h.ev,h.sz⟩
theorem WFX.pl (h : WFX X O B σ) {π : TPool} (hp : PInvX Y σ.u π σ.top σ.queue) : WFX Y O B { σ with pool := π } := h.chg hp
theorem WFX.kc (h : WFX X O B σ) {κ γ : List Int} (h1 : κ.length = 24) (h2 : γ.length = 24) (h3 : ∀ k : Nat,0 <= γ.getD k 0 /\ γ.getD k 0 <= 4 * (B : Int)) : WFX X O B { σ with kept := κ,copied := γ } := ⟨h.g,h.by_,h.d,h.p,h1,h2,h3,h.ca,h.ev,h.sz⟩
theorem WFX.tell (h : WFX X O B σ) (a b : Int) (v : TVal) : WFX X O (B + 1) (mTell σ a b v) :=
 have h' := h.mono (Nat.le_succ B)
 ⟨h'.g,h'.by_,h'.d,h'.p,h'.kept,h'.copied,h'.cp,h'.ca,by have := h.ev; simp [mTell]; omega,h'.sz⟩
theorem WFX.halt (h : WFX X O B σ) (b : Bool) : WFX X O B { σ with halted := b } := ⟨h.g,h.by_,h.d,h.p,h.kept,h.copied,h.cp,h.ca,h.ev,h.sz⟩
theorem WFX.inp (h : WFX X O B σ) (i : List Int) : WFX X O B { σ with input := i } := ⟨h.g,h.by_,h.d,h.p,h.kept,h.copied,h.cp,h.ca,h.ev,h.sz⟩
theorem WFX.why (h : WFX X O B σ) (w : Int) : WFX X O B { σ with why := w } := ⟨h.g,h.by_,h.d,h.p,h.kept,h.copied,h.cp,h.ca,h.ev,h.sz⟩
theorem WFX.find (h : WFX X O B σ) (c sel : Int) : WFX X O B (mFind σ c sel).2 /\ (0 <= (mFind σ c sel).1 -> Fits σ.u sel (mFind σ c sel).1) := by
 obtain ⟨h1,h2⟩ := mFind_ok (σ := σ) (u := σ.u) (by rw [h.d]; exact uDicts_ok h.g) h.ca c sel
 refine ⟨?_,h1⟩
 have e := mFind_same σ c sel
 rw [e]
 exact ⟨h.g,h.by_,h.d,h.p,h.kept,h.copied,h.cp,h2,h.ev,h.sz⟩
theorem WFX.done (h : WFX X O B σ) : WFX X O (B + 1) (mDone σ) := by
 unfold mDone
 split
 ·exact (h.halt true).tell _ _ _
 ·exact h.mono (Nat.le_succ B)
theorem WFX.alloc (hz : SzOk O) (h : WFX X O B σ) (c f : Int) : WFX X O (B + 1) (dAlloc O σ c f).2 := by
 have h' := h.mono (Nat.le_succ B)
 have := hz.A σ.s c f
 have h2 := h.sz
 exact ⟨h'.g,h'.by_,h'.d,h'.p,h'.kept,h'.copied,h'.cp,h'.ca,h'.ev,by show O.size (O.alloc σ.s c f).2 <= B + 1; omega⟩
end
end
section
section
variable {α : Type} {O : StoreOps α} {σ σ1 σ2 : TM α} {X Y : List Int} {B B' : Nat}
theorem take1 (q : TQueue) : (qTake q).1 = qFirst q := by unfold qTake; split <;> rfl
theorem pFree_pops (π : TPool) (f : Int) (n : Nat) : pFree (pPops π f n) = pFree π := by unfold pFree; rw [pPops_used]
theorem mTake_wf (h : WF O B σ) (hf : pFree σ.pool ≠ 0) {method : Int} (hm : 0 <= method /\ method < σ.u.methods.length) {args : List Int} (ha : (args.length : Int) = (σ.u.me method).args) (self sender home serial : Int) :
  ∃ i x π κ γ,mTake σ method self args sender home serial = (i,{ σ with pool := π,kept := κ,copied := γ }) /\ Taken σ.pool π i x /\ FGood σ.u x /\ x.sender = sender /\ κ.length = 24 /\ γ.length = 24 /\ ∀ k : Nat,0 <= γ.getD k 0 /\ γ.getD k 0 <= 4 * (B : Int) := by
 have hg := h.g.meth (σ := σ) hm
 have hsh := hg.sh
 have he := hg.ends
 have hlen : ((args ++ List.replicate (σ.meth method).temps.toNat 2).length : Int) = (σ.meth method).args + (σ.meth method).temps := by
  have : (σ.u.me method).args = (σ.meth method).args := rfl
  simp; omega
 obtain ⟨i,h1,h2⟩ := pTake_taken h.p.len hf (method := method) (self := self) (sender := sender) (home := home) (slots := args ++ List.replicate (σ.meth method).temps.toNat 2) (by omega)
 have hr := h2.rng
 have hfit : FGood σ.u ⟨method,0,sender,if home = -1 then i else home,IntKind.wrap .i64 (σ.pool.serial + 1),self,args ++ List.replicate (σ.meth method).temps.toNat 2,[]⟩ := by
  refine ⟨hm,⟨by simp,by simp,?_⟩,hlen,by simp⟩
  show (0 : Int) + 1 < ((σ.meth method).code.length : Int)
  unfold cEnds at he
  split at he
  ·cases he
  ·omega
 have hcp : ∀ k : Nat,0 <= (σ.copied.set i.toNat 0).getD k 0 /\ (σ.copied.set i.toNat 0).getD k 0 <= 4 * (B : Int) := fun k => by
  rw [getD_set (by rw [h.copied]; omega)]
  split
  ·omega
  ·exact h.cp k
 unfold mTake
 simp only
 rw [h1,if_neg (by omega)]
 split
 ·exact ⟨i,_,_,_,_,rfl,h2,hfit,rfl,by simp [h.kept],by simp [h.copied],hcp⟩
 ·exact ⟨i,_,_,_,_,rfl,h2,hfit,rfl,by simp [h.kept],by simp [h.copied],hcp⟩
theorem call_wf (h : WF O B σ) (hf : pFree σ.pool ≠ 0) {method : Int} (hm : 0 <= method /\ method < σ.u.methods.length) {args : List Int} (ha : (args.length : Int) = (σ.u.me method).args) (self home serial : Int) {p : Int} (hp : 0 <= p /\ p < 6) {f : Int} (hp0 : σ.top.getD p.toNat 0 = f) (h0 : 0 <= f) :
  WF O B { (mTake σ method self args f home serial).2 with top := (mTake σ method self args f home serial).2.top.set p.toNat (mTake σ method self args f home serial).1 } := by
 obtain ⟨i,x,π,κ,γ,e,t,g,s,k1,k2,k3⟩ := mTake_wf h hf hm ha self f home serial
 rw [e]
 obtain ⟨C,hC⟩ := h.p.ch
 have hin := (h.p.inn p.toNat (by omega)).2 (by rw [hp0]; exact h0)
 have := h.p.take hC t g (p := p.toNat) (by omega) (L := C p.toNat) (.inr ⟨rfl,by rw [s,hp0]⟩) h.p.qi (fun j _ => by split <;> simp_all) (fun _ hy => hy)
 exact (h.kc k1 k2 k3).chg this
theorem fork_wf (h : WF O B σ) (hf : pFree σ.pool ≠ 0) {method : Int} (hm : 0 <= method /\ method < σ.u.methods.length) (ha : 0 = (σ.u.me method).args) (self home serial : Int) {k : Nat} (hk : k < 6) (hneg : σ.top.getD k 0 < 0) {n : Int} (hn : 0 <= n /\ n < 4) :
  WF O B { (mTake σ method self [] (-1) home serial).2 with top := (mTake σ method self [] (-1) home serial).2.top.set k (mTake σ method self [] (-1) home serial).1,queue := qReady (mTake σ method self [] (-1) home serial).2.queue (k : Int) n } := by
 obtain ⟨i,x,π,κ,γ,e,t,g,s,k1,k2,k3⟩ := mTake_wf h hf hm (args := []) (by simpa using ha) self (-1) home serial
 rw [e]
 obtain ⟨C,hC⟩ := h.p.ch
 have hin : σ.queue.inn.getD k false = false := by
  have := (h.p.inn k hk).1
  cases hb : σ.queue.inn.getD k false with
  | false => rfl
  | true => have := this hb; omega
 obtain ⟨q1,q2⟩ := h.p.qi.ready k n
 rw [if_pos ⟨by omega,by omega,by simpa using hin,hn.1,hn.2⟩] at q2
 have := h.p.take hC t g (p := k) hk (L := []) (.inl ⟨rfl,by omega⟩) q1 (fun j _ => by rw [q2,getD_set (by rw [h.p.qi.n5]; omega)]; simp) (fun _ hy => by simp at hy)
 exact (h.kc k1 k2 k3).chg this
theorem negAt_lt : ∀ {l : List Int},negAt l ≠ l.length -> negAt l < l.length /\ l.getD (negAt l) 0 < 0
 | [],h => by simp [negAt] at h
 | x :: r,h => by
  unfold negAt at h ⊢
  split
  ·rename_i hx; exact ⟨by simp,by simpa using hx⟩
  ·rename_i hx
   rw [if_neg hx] at h
   obtain ⟨a,b⟩ := negAt_lt (l := r) (by simpa using h)
   exact ⟨by simpa using a,by simpa using b⟩
theorem mEnd_wf (hz : SzOk O) (h : WFX X O B σ) {p : Int} (hp : 0 <= p /\ p < 6) (hq : qFirst σ.queue = p) {C : Nat -> List Int} (hC : Chains σ.pool σ.top C) {l : List Int} (hl : C p.toNat = l) (hX : ∀ y ∈ X,y ∈ l) (v : Int) :
  WF O (B + 2) (mEnd O { σ with pool := l.foldl pGive σ.pool } p v) := by
 have := h.p.ends hC (p := p.toNat) (by omega) (by rw [take1,hq]; omega) hl hX
 have h1 : WF O B (mOff { σ with pool := l.foldl pGive σ.pool } p) := h.chg this
 exact ((h1.sm (Sm.said hz _ v)).tell _ _ _).done
theorem mFail_wf (h : WFX X O B σ) {p : Int} (hp : 0 <= p /\ p < 6) (hq : qFirst σ.queue = p) {f : Int} (hf : σ.top.getD p.toNat 0 = f) (h0 : 0 <= f) (hX : ∀ y ∈ X,y = f) (k : Int) : WF O (B + 2) (mFail σ p k) := by
 obtain ⟨C,hC⟩ := h.p.ch
 obtain ⟨c1,c2⟩ := hC.of p.toNat (by omega)
 have hin : f ∈ C p.toNat := by
  rw [hf] at c1
  cases hc : C p.toNat with
  | nil => rw [hc] at c1; have : f < 0 := c1; omega
  | cons a r => rw [hc] at c1; rw [c1.1]; exact List.mem_cons_self
 have e := pChain_eq 24 c1 (c1.len c2)
 have := h.p.ends hC (p := p.toNat) (by omega) (by rw [take1,hq]; omega) (l1 := C p.toNat) rfl (fun y hy => by rw [hX y hy]; exact hin)
 unfold mFail
 rw [e]
 have h1 : WF O B { σ with pool := (C p.toNat).foldl pGive σ.pool,queue := qEnd σ.queue,top := σ.top.set p.toNat (-1) } := h.chg this
 exact (h1.tell 3 p ⟨3,k⟩).done
theorem back_wf (hz : SzOk O) (h : WFX X O B σ) {δ : TD} (hp : 0 <= δ.p /\ δ.p < 6) (hq : qFirst σ.queue = δ.p) (h0 : 0 <= σ.top.getD δ.p.toNat 0) {C : Nat -> List Int} (hC : Chains σ.pool σ.top C) {l L2 : List Int} (hl : C δ.p.toNat = l ++ L2) (hX : ∀ y ∈ X,y ∈ l) {s : Int} (hL : ChainOf σ.pool L2 s) (v : Int) :
  WF O (B + 2) (dBack O { σ with pool := l.foldl pGive σ.pool } δ s v) := by
 unfold dBack
 by_cases hs : s < 0
 ·rw [if_pos hs]
  have : L2 = [] := by
   cases L2 with
   | nil => rfl
   | cons a r => have := hL.2.1; rw [<- hL.1] at this; have := pIs_range this; omega
  subst this
  rw [List.append_nil] at hl
  exact mEnd_wf hz h hp hq hC hl hX v
 ·rw [if_neg hs]
  have := h.p.gives hC (p := δ.p.toNat) (by omega) h0 hl hL (by omega) hX
  have h1 := (h.mono (Nat.le_add_right B 2)).chg (this.push s v)
  exact h1
theorem pPath_chain {π : TPool} {home : Int} : ∀ (n : Nat) {L : List Int} {f : Int} {l : List Int},ChainOf π L f -> 0 <= f -> pPath π home n f = some l -> ∃ L2,L = l ++ L2 /\ ChainOf π L2 (π.fr home).sender
 | 0,_,_,_,_,_,h => by simp [pPath] at h
 | n + 1,L,f,l,hL,h0,h => by
  cases L with
  | nil => have : f < 0 := hL; omega
  | cons a r =>
   obtain ⟨rfl,h1,h2⟩ := hL
   have he : (pAt π f).1 = π.fr f := by unfold pAt; rw [if_pos h1]
   unfold pPath at h
   split at h
   ·rename_i e
    simp only [Z3] at h
    subst h; subst e
    exact ⟨r,rfl,h2⟩
   ·split at h
    ·cases h
    ·rename_i hs
     rw [he] at h hs
     cases hp : pPath π home n (π.fr f).sender with
     | none => rw [hp] at h; cases h
     | some l' =>
      rw [hp] at h
      simp only [Option.map_some,Z3] at h
      subst h
      obtain ⟨L2,e,hL2⟩ := pPath_chain n h2 (by omega) hp
      exact ⟨L2,by rw [e]; rfl,hL2⟩
end
end
section
section
variable {α : Type} {O : StoreOps α} {σ σ1 σ2 : TM α} {X Y : List Int} {B B' : Nat}
structure Run (σ : TM α) (δ : TD) : Prop where
 hp : 0 <= δ.p /\ δ.p < 6
 hq : qFirst σ.queue = δ.p
 hf : σ.top.getD δ.p.toNat 0 = δ.f
 is : pIs σ.pool δ.f = true
 m : (σ.pool.fr δ.f).method = δ.x.method
 s : (σ.pool.fr δ.f).sender = δ.x.sender
 sl : (σ.pool.fr δ.f).slots = δ.x.slots
 st : (σ.pool.fr δ.f).stack = δ.x.stack
 g : FGood σ.u δ.x
theorem Run.sm {δ : TD} (h : Run σ δ) (s : Sm O σ σ1) : Run σ1 δ := ⟨h.hp,by rw [s.queue]; exact h.hq,by rw [s.top]; exact h.hf,by rw [s.pool]; exact h.is,by rw [s.pool]; exact h.m,by rw [s.pool]; exact h.s,by rw [s.pool]; exact h.sl,by rw [s.pool]; exact h.st,by rw [s.u]; exact h.g⟩
theorem Run.f0 {δ : TD} (h : Run σ δ) : 0 <= δ.f /\ δ.f < 24 := pIs_range h.is
structure Res (f : Int) (O : StoreOps α) (B : Nat) (σ : TM α) (r : Int × TM α) : Prop where
 ok : r.1 = 0 -> WF O B r.2
 no : r.1 ≠ 0 -> WFX [f] O B r.2 /\ r.2.queue = σ.queue /\ r.2.top = σ.top
variable {f : Int} {δ : TD}
theorem Res.good (h : WF O B σ1) : Res f O B σ (0,σ1) := ⟨fun _ => h,fun h => absurd rfl h⟩
theorem Res.all (h : WF O B σ1) (hq : σ1.queue = σ.queue) (ht : σ1.top = σ.top) (k : Int) : Res f O B σ (k,σ1) := ⟨fun _ => h,fun _ => ⟨h.weak,hq,ht⟩⟩
theorem Res.sm (h : WF O B σ) (s : Sm O σ σ1) (k : Int) : Res f O B σ (k,σ1) := .all (h.sm s) s.queue s.top k
theorem Res.mono {r : Int × TM α} (h : Res f O B σ r) (hB : B <= B') : Res f O B' σ r := ⟨fun e => (h.ok e).mono hB,fun e => ⟨(h.no e).1.mono hB,(h.no e).2⟩⟩
theorem Res.of {r : Int × TM α} (h : Res f O B σ1 r) (hq : σ1.queue = σ.queue) (ht : σ1.top = σ.top) : Res f O B σ r := ⟨h.ok,fun e => ⟨(h.no e).1,(h.no e).2.1.trans hq,(h.no e).2.2.trans ht⟩⟩
theorem Res.ite {c : Prop} [Decidable c] {a b : Int × TM α} (h1 : c -> Res f O B σ a) (h2 : ¬ c -> Res f O B σ b) : Res f O B σ (if c then a else b) := by
 split
 ·exact h1 (by assumption)
 ·exact h2 (by assumption)
theorem WFX.drop (h : WF O B σ) (δ : TD) (n : Nat) : WF O B (dDrop σ δ n) := h.pl (h.p.pops _ n)
theorem WFX.answer (h : WF O B σ) (δ : TD) (n : Nat) (v : Int) : WF O B (dAnswer σ δ n v) := h.pl ((h.p.pops _ n).push _ v)
theorem Res.push (h : WF O B σ1) (hq : σ1.queue = σ.queue) (ht : σ1.top = σ.top) (δ : TD) (v : Int) : Res f O B σ (dPush σ1 δ v) := by
 unfold dPush
 split
 ·exact .good (h.pl (h.p.push _ v))
 ·exact .all h hq ht 1
theorem goto_wf (h : WF O B σ) (R : Run σ δ) {pc : Int} (hp : PcOk (σ.u.me δ.x.method).code pc) : WF O B (dGoto σ δ pc) := h.pl (h.p.goto _ pc fun _ => by rw [R.m]; exact hp)
theorem place_res (hz : SzOk O) (h : WF O B σ) (δ : TD) (op : Int) : Res f O B σ (dPlace O σ δ op) := by
 unfold dPlace
 split
 ·have s := Sm.get hz σ (wID δ.x.self).1 δ.arg
  split
  ·exact .sm h s _
  ·split
   ·exact .sm h s _
   ·exact .push (h.sm s) s.queue s.top _ _
 ·split
  ·exact .sm h (.refl _) _
  ·split
   ·exact .good (h.pl (h.p.slot _ _ _))
   ·split
    ·exact .sm h (.cls hz _ _) _
    ·exact .sm h ((Sm.cls hz _ _).trans (Sm.put hz _ _ _ _)) _
theorem make_res (hz : SzOk O) (h : WF O B σ) (δ : TD) (op : Int) : Res f O (B + 1) σ (dMake O σ δ op) := by
 unfold dMake
 by_cases hs : ¬ δ.x.stack.length < 8
 ·rw [if_pos hs]; exact .sm (h.mono (Nat.le_succ B)) (.refl _) _
 ·rw [if_neg hs]
  dsimp only
  generalize (if op = 20 then σ.litN δ else 0) = c
  generalize (if op = 20 then (σ.u.classes.getD (σ.litN δ).toNat default).fields else 4) = n
  have ha := h.alloc hz c n
  have eq : (dAlloc O σ c n).2.queue = σ.queue := rfl
  have et : (dAlloc O σ c n).2.top = σ.top := rfl
  generalize dAlloc O σ c n = a at *
  split
  ·exact .all ha eq et _
  ·split
   ·have s := (Sm.mkPut hz a.2 a.1 [σ.litN δ,δ.x.home,a.2.kept.getD δ.f.toNat 0] 3).trans (Sm.put hz _ a.1 3 δ.x.self)
    exact .push (ha.sm s) (s.queue.trans eq) (s.top.trans et) _ _
   ·exact .push ha eq et _ _
theorem reckon_res (h : WF O B σ) (δ : TD) : Res f O B σ (dReckon σ δ) := by
 unfold dReckon
 split
 ·exact .sm h (.refl _) _
 ·dsimp only
  generalize (if δ.arg = 0 then wAdd (dUnder δ 1) (dUnder δ 0) else if δ.arg = 1 then wSub (dUnder δ 1) (dUnder δ 0) else if δ.arg = 2 then wMul (dUnder δ 1) (dUnder δ 0) else if δ.arg = 3 then wDiv (dUnder δ 1) (dUnder δ 0) else (dTruth (wLess (dUnder δ 1) (dUnder δ 0)).1,true) : Int × Bool) = r
  split
  ·exact .sm h (.refl _) _
  ·exact .good (h.answer _ _ _)
theorem call_res (hz : SzOk O) (h : WF O B σ) (R : Run σ δ) (args : List Int) : Res f O B σ (dCall O σ δ args) := by
 unfold dCall
 dsimp only
 have s := Sm.block hz σ (dUnder δ args.length) args.length
 have fit := dBlock_fit (O := O) σ (dUnder δ args.length) args.length
 generalize dBlock O σ (dUnder δ args.length) args.length = b at *
 split
 ·exact .sm h s _
 ·rename_i hb
  split
  ·exact .sm h s _
  ·rename_i hf
   obtain ⟨f1,f2⟩ := fit (by simpa using hb)
   unfold dBegin
   refine .good (call_wf ((h.sm s).drop δ _) (by show pFree (pPops b.2.pool δ.f _) ≠ 0; rw [pFree_pops]; exact hf) (by show _ /\ _ < (b.2.u.methods.length : Int); rw [s.u]; exact f1) (by show _ = (b.2.u.me _).args; rw [s.u]; exact f2.symm) _ _ _ R.hp (by show b.2.top.getD _ 0 = _; rw [s.top]; exact R.hf) R.f0.1)
theorem fields_res (hz : SzOk O) (h : WF O B σ) (δ : TD) : Res f O B σ (dFields O σ δ) := by
 unfold dFields
 split
 ·dsimp only
  split
  ·exact .sm h (.object hz _ _) _
  ·exact .good ((h.sm ((Sm.object hz _ _).trans (Sm.flds hz _ _))).answer _ _ _)
 ·dsimp only
  have s := Sm.op hz σ (dUnder δ ((cTakes δ.arg).toNat - 1))
  generalize dOpen O σ (dUnder δ ((cTakes δ.arg).toNat - 1)) = o at *
  split
  ·exact .sm h s _
  ·split
   ·split
    ·exact .sm h (s.trans (Sm.get hz _ _ _)) _
    ·exact .good ((h.sm (s.trans (Sm.get hz _ _ _))).answer _ _ _)
   ·split
    ·exact .sm h (s.trans (Sm.put hz _ _ _ _)) _
    ·exact .good ((h.sm (s.trans (Sm.put hz _ _ _ _))).answer _ _ _)
theorem queue_wf (h : WF O B σ) {q : TQueue} (hq : QInv q /\ q.inn = σ.queue.inn) : WF O B { σ with queue := q } := h.chg (h.p.queue hq.1 hq.2)
theorem plain_wf (h : WF O B σ) (δ : TD) : WF O (B + 1) (dPlain σ δ) := by
 have h1 := h.mono (Nat.le_succ B)
 unfold dPlain
 split
 ·exact (queue_wf h1 h.p.qi.turn).answer _ _ _
 ·split
  ·exact ((h.halt true).tell _ _ _).answer _ _ _
  ·split
   ·exact h1.answer _ _ _
   ·split
    ·split
     ·exact h1.answer _ _ _
     ·exact (h1.inp _).answer _ _ _
    ·exact h1.answer _ _ _
theorem numbered_res (hz : SzOk O) (h : WF O B σ) (δ : TD) : Res f O (B + 1) σ (dNumbered O σ δ) := by
 have h1 := h.mono (Nat.le_succ B)
 unfold dNumbered
 dsimp only
 generalize (if δ.arg = 15 \/ δ.arg = 16 then 3 else if δ.arg = 22 then (wNum (dUnder δ 0)).1 else 62) = most
 split
 ·exact .sm h1 (.refl _) _
 ·split
  ·exact .sm h1 (.refl _) _
  ·split
   ·split
    ·exact Res.all (σ := σ) (h.alloc hz 1 (wNum (dUnder δ 0)).1) rfl rfl _
    ·exact .good ((h.alloc hz _ _).answer _ _ _)
   ·have ha := h1.answer δ 1 2
    split
    ·exact .good (queue_wf ha (ha.p.qi.wait _))
    ·split
     ·exact .good (queue_wf ha (ha.p.qi.post _))
     ·exact .good (queue_wf ha (ha.p.qi.sleep _))
theorem copyEnd_wf (hz : SzOk O) (hB : B <= 200000) (h : WF O B σ) (R : Run σ δ) (a b n : Int) (hn : 0 <= n) : WF O (B + 1) (dCopyEnd O σ δ a b n) := by
 have hc := h.cp δ.f.toNat
 have hfr := R.f0
 have hto : 0 <= dCopyTo σ δ n /\ dCopyTo σ δ n <= 4 * ((B + 1 : Nat) : Int) := by
  unfold dCopyTo
  rw [wrap_id (by omega) (by omega)]
  split <;> omega
 unfold dCopyEnd
 dsimp only
 have s := Sm.copyN hz σ a b (σ.copied.getD δ.f.toNat 0) (dCopyTo σ δ n - σ.copied.getD δ.f.toNat 0).toNat
 generalize mCopyN O σ a b (σ.copied.getD δ.f.toNat 0) (dCopyTo σ δ n - σ.copied.getD δ.f.toNat 0).toNat = t at *
 have ht := (h.sm s).mono (Nat.le_succ B)
 have R' := R.sm s
 have hset : ∀ v : Int,0 <= v -> v <= 4 * ((B + 1 : Nat) : Int) -> ∀ l : List Int,l.length = 24 -> (∀ k : Nat,0 <= l.getD k 0 /\ l.getD k 0 <= 4 * ((B + 1 : Nat) : Int)) -> ∀ k : Nat,0 <= (l.set δ.f.toNat v).getD k 0 /\ (l.set δ.f.toNat v).getD k 0 <= 4 * ((B + 1 : Nat) : Int) := fun v v0 v1 l hl hh k => by
  rw [getD_set (by rw [hl]; omega)]
  split
  ·exact ⟨v0,v1⟩
  ·exact hh k
 have h1 := hset _ hto.1 hto.2 _ ht.copied ht.cp
 have w1 := ht.kc ht.kept (γ := t.copied.set δ.f.toNat (dCopyTo σ δ n)) (by simp [ht.copied]) h1
 split
 ·exact goto_wf w1 ⟨R'.hp,R'.hq,R'.hf,R'.is,R'.m,R'.s,R'.sl,R'.st,R'.g⟩ R'.g.pc
 ·exact (w1.kc ht.kept (by simp [ht.copied]) (hset 0 (by omega) (by omega) _ (by simp [ht.copied]) h1)).answer _ _ _
theorem copy_res (hz : SzOk O) (hB : B <= 200000) (h : WF O B σ) (R : Run σ δ) : Res f O (B + 1) σ (dCopy O σ δ) := by
 unfold dCopy
 dsimp only
 have h1 := h.why 3
 have R1 : Run { σ with why := 3 } δ := ⟨R.hp,R.hq,R.hf,R.is,R.m,R.s,R.sl,R.st,R.g⟩
 refine Res.of (σ1 := { σ with why := 3 }) ?_ rfl rfl
 generalize ({ σ with why := 3 } : TM α) = τ at *
 have sa := Sm.op hz τ (dUnder δ 2)
 generalize dOpen O τ (dUnder δ 2) = a at *
 have sb := sa.trans (Sm.op hz a.2 (dUnder δ 1))
 generalize dOpen O a.2 (dUnder δ 1) = b at *
 have hm := h1.mono (Nat.le_succ B)
 split
 ·exact .sm hm sb _
 ·split
  ·exact .sm hm sb _
  ·split
   ·exact .sm hm sb _
   ·split
    ·exact .sm hm sb _
    ·rename_i hn
     have sc := sb.trans (Sm.flds hz b.2 a.1.1)
     split
     ·exact .sm hm sc _
     ·have sd := sc.trans (Sm.flds hz _ b.1.1)
      split
      ·exact .sm hm sd _
      ·exact .good (copyEnd_wf hz hB (h1.sm sd) (R1.sm sd) _ _ _ (by omega))
theorem swap_res (hz : SzOk O) (h : WF O B σ) (δ : TD) : Res f O B σ (dSwap O σ δ) := by
 unfold dSwap
 dsimp only
 have sa := Sm.object hz σ (dUnder δ 1)
 generalize mObject O σ (dUnder δ 1) = a at *
 have sb := sa.trans (Sm.object hz a.2 (dUnder δ 0))
 generalize mObject O a.2 (dUnder δ 0) = b at *
 split
 ·exact .sm h sb _
 ·split
  ·exact .sm h sb _
  ·have sc := (sb.trans (Sm.cls hz b.2 a.1.1)).trans (Sm.cls hz _ b.1.1)
   split
   ·exact .sm h sc _
   ·have sd := (sc.trans (Sm.flds hz _ a.1.1)).trans (Sm.flds hz _ b.1.1)
    split
    ·exact .sm h sd _
    ·exact .good ((h.sm (sd.trans (Sm.swap hz _ _ _))).answer _ _ _)
theorem fork_res (hz : SzOk O) (h : WF O B σ) (δ : TD) : Res f O B σ (dFork O σ δ) := by
 unfold dFork
 dsimp only
 have s := Sm.block hz σ (dUnder δ 1) 0
 have fit := dBlock_fit (O := O) σ (dUnder δ 1) 0
 generalize dBlock O σ (dUnder δ 1) 0 = b at *
 have hw := h.sm s
 split
 ·exact .sm h s _
 ·rename_i hb
  split
  ·exact .sm h s _
  ·split
   ·exact .sm h s _
   ·split
    ·exact .sm h s _
    ·split
     ·exact .sm h s _
     ·rename_i hn
      split
      ·exact .sm h s _
      ·rename_i hf
       obtain ⟨f1,f2⟩ := fit (by simpa using hb)
       obtain ⟨k1,k2⟩ := negAt_lt (l := b.2.top) (by rw [hw.p.top6]; exact hn)
       unfold dBegin
       exact .good ((fork_wf hw hf (by rw [s.u]; exact f1) (by rw [s.u]; exact f2.symm) _ _ _ (by rw [<- hw.p.top6]; exact k1) k2 (by omega)).answer _ _ _)
theorem sendTo_res (h : WF O B σ) (R : Run σ δ) {n : Nat} (hn : n <= δ.x.stack.length) (cls sel : Int) (hs : nArgs (σ.u.names.getD sel.toNat ⟨#[]⟩) = n) : Res f O B σ (dSendTo σ δ n cls sel) := by
 unfold dSendTo
 dsimp only
 obtain ⟨w1,w2⟩ := h.find cls sel
 have e := mFind_same σ cls sel
 have eu : (mFind σ cls sel).2.u = σ.u := by rw [e]
 have et : (mFind σ cls sel).2.top = σ.top := by rw [e]
 have eq : (mFind σ cls sel).2.queue = σ.queue := by rw [e]
 generalize mFind σ cls sel = F at *
 split
 ·exact .all w1 eq et _
 ·rename_i hf
  split
  ·exact .all w1 eq et _
  ·rename_i hp
   obtain ⟨a,b,c⟩ := w2 (by omega)
   refine .good (call_wf (w1.drop δ _) (by show pFree (pPops F.2.pool δ.f _) ≠ 0; rw [pFree_pops]; exact hp) ?_ ?_ _ _ _ R.hp ?_ R.f0.1)
   ·show _ /\ _ < (F.2.u.methods.length : Int)
    rw [eu]; exact ⟨a,b⟩
   ·show _ = (F.2.u.me _).args
    rw [eu,<- c,hs,List.length_drop]; omega
   ·show F.2.top.getD _ 0 = _
    rw [et]; exact R.hf
theorem send_res (hz : SzOk O) (h : WF O B σ) (R : Run σ δ) (op : Int) (hn : 0 <= (mArgs σ.u δ.x.method δ.arg).1) : Res f O B σ (dSend O σ δ op) := by
 unfold dSend
 dsimp only
 split
 ·exact .sm h (.refl _) _
 ·rename_i hl
  have hs : nArgs (σ.u.names.getD (mArgs σ.u δ.x.method δ.arg).2.toNat ⟨#[]⟩) = ((mArgs σ.u δ.x.method δ.arg).1.toNat : Nat) := by
   rw [show ((mArgs σ.u δ.x.method δ.arg).1.toNat : Int) = (mArgs σ.u δ.x.method δ.arg).1 by omega]; rfl
  have hn' : (mArgs σ.u δ.x.method δ.arg).1.toNat <= δ.x.stack.length := by omega
  split
  ·split
   ·exact sendTo_res h R hn' _ _ hs
   ·exact .sm h (.refl _) _
  ·have s := Sm.klass hz σ (dUnder δ (mArgs σ.u δ.x.method δ.arg).1.toNat)
   exact (sendTo_res (h.sm s) (R.sm s) hn' _ _ (by rw [s.u]; exact hs)).of s.queue s.top
end
end
section
section
variable {α : Type} {O : StoreOps α} {σ σ1 σ2 : TM α} {X Y : List Int} {B B' : Nat} {δ : TD}
theorem UGood.me (hg : UGood σ.u) {i : Int} (hi : 0 <= i /\ i < σ.u.methods.length) : MGood (σ.u.me i) σ.u.names.length σ.u.classes.length σ.u.methods.length := hg.meth (σ := σ) hi
theorem WFX.bytes (h : WFX X O B σ) {i : Int} (hi : 0 <= i /\ i < σ.u.methods.length) : Bytes (σ.u.me i).code := h.by_ _ (List.mem_of_getElem? (getD_some (by omega)))
theorem Run.code (R : Run σ δ) (h : WFX X O B σ) : 0 <= (cFetch (σ.u.me δ.x.method).code δ.x.pc).2.1 /\ (cFetch (σ.u.me δ.x.method).code δ.x.pc).2.1 < 256 /\ 0 <= δ.x.pc /\ δ.x.pc + 1 < (σ.u.me δ.x.method).code.length /\ (σ.u.me δ.x.method).code.length <= 128 := by
 have hr := cFetch_range (h.bytes R.g.m) δ.x.pc
 have hp := R.g.pc
 have hs := (h.g.me R.g.m).short
 simp only [cShort,Bool.and_eq_true,ZJ] at hs
 exact ⟨hr.1,hr.2,hp.1,hp.2.2,hs.1.1.1.1.1⟩
theorem jump_wf (h : WF O B σ) (R : Run σ δ) (ha : δ.arg = (cFetch (σ.u.me δ.x.method).code δ.x.pc).2.1) (ho : (cFetch (σ.u.me δ.x.method).code δ.x.pc).1 = 15 \/ (cFetch (σ.u.me δ.x.method).code δ.x.pc).1 = 17) : WF O B (dJump σ δ) := by
 obtain ⟨r0,r1,r2,r3,r4⟩ := R.code h
 have hj := pc_jump (h.g.me R.g.m) (h.bytes R.g.m) R.g.pc ho
 rw [<- ha] at hj r0 r1
 unfold dJump
 refine goto_wf h R ?_
 rw [wrap_id (x := δ.x.pc + 2) (by omega) (by omega),wrap_id (x := 2 * δ.arg) (by omega) (by omega),wrap_id (by omega) (by omega)]
 exact hj
theorem iffalse_res (h : WF O B σ) (R : Run σ δ) (ha : δ.arg = (cFetch (σ.u.me δ.x.method).code δ.x.pc).2.1) (ho : (cFetch (σ.u.me δ.x.method).code δ.x.pc).1 = 17) : Res δ.f O B σ (dIffalse σ δ) := by
 unfold dIffalse
 split
 ·exact .good ((jump_wf h R ha (.inr ho)).drop _ _)
 ·split
  ·exact .good (h.drop _ _)
  ·exact .sm h (.refl _) _
theorem prim_res (hz : SzOk O) (hB : B <= 200000) (h : WF O B σ) (R : Run σ δ) : Res δ.f O (B + 1) σ (dPrim O σ δ) := by
 have h1 := h.mono (Nat.le_succ B)
 have up : ∀ {r : Int × TM α},Res δ.f O B σ r -> Res δ.f O (B + 1) σ r := fun h => h.mono (Nat.le_succ B)
 unfold dPrim
 refine .ite (fun _ => .sm h1 (.refl _) _) (fun _ => ?_)
 refine .ite (fun _ => .sm h1 (.refl _) _) (fun _ => ?_)
 refine .ite (fun _ => up (reckon_res h δ)) (fun _ => ?_)
 refine .ite (fun _ => .good (h1.answer _ _ _)) (fun _ => ?_)
 refine .ite (fun _ => .good ((h1.sm (Sm.klass hz _ _)).answer _ _ _)) (fun _ => ?_)
 refine .ite (fun _ => up (fields_res hz h δ)) (fun _ => ?_)
 refine .ite (fun _ => .good ((h.sm (Sm.said hz _ _)).tell _ _ _)) (fun _ => ?_)
 refine .ite (fun _ => up (call_res hz h R _)) (fun _ => ?_)
 refine .ite (fun _ => up (call_res hz h R _)) (fun _ => ?_)
 refine .ite (fun _ => up (fork_res hz h δ)) (fun _ => ?_)
 refine .ite (fun _ => .good (plain_wf h δ)) (fun _ => ?_)
 refine .ite (fun _ => numbered_res hz h δ) (fun _ => ?_)
 refine .ite (fun _ => copy_res hz hB h R) (fun _ => ?_)
 refine .ite (fun _ => up (swap_res hz h δ)) (fun _ => ?_)
 exact .sm h1 (.refl _) _
theorem do_res (hz : SzOk O) (hB : B <= 200000) (h : WF O B σ) (R : Run σ δ) (hn : 0 <= (mArgs σ.u δ.x.method δ.arg).1 \/ (cFetch (σ.u.me δ.x.method).code δ.x.pc).1 ≠ 12 /\ (cFetch (σ.u.me δ.x.method).code δ.x.pc).1 ≠ 13) (ha : δ.arg = (cFetch (σ.u.me δ.x.method).code δ.x.pc).2.1)
  (hl : (cFetch (σ.u.me δ.x.method).code δ.x.pc).1 ≠ 14 /\ (cFetch (σ.u.me δ.x.method).code δ.x.pc).1 ≠ 19 /\ (cFetch (σ.u.me δ.x.method).code δ.x.pc).1 ≠ 16) : Res δ.f O (B + 1) σ (dDo O σ δ (cFetch (σ.u.me δ.x.method).code δ.x.pc).1) := by
 have h1 := h.mono (Nat.le_succ B)
 have up : ∀ {r : Int × TM α},Res δ.f O B σ r -> Res δ.f O (B + 1) σ r := fun h => h.mono (Nat.le_succ B)
 have hjump := jump_wf h R ha
 have hiff := iffalse_res h R ha
 generalize (cFetch (σ.u.me δ.x.method).code δ.x.pc).1 = op at *
 have pu : ∀ v,Res δ.f O (B + 1) σ (dPush σ δ v) := fun v => .push h1 rfl rfl _ _
 unfold dDo
 refine .ite (fun e => pu _) (fun _ => ?_)
 refine .ite (fun e => up (place_res hz h _ _)) (fun _ => ?_)
 refine .ite (fun e => pu _) (fun _ => ?_)
 refine .ite (fun e => pu _) (fun _ => ?_)
 refine .ite (fun e => pu _) (fun _ => ?_)
 refine .ite (fun e => pu _) (fun _ => ?_)
 refine .ite (fun e => pu _) (fun _ => ?_)
 refine .ite (fun e => pu _) (fun _ => ?_)
 refine .ite (fun e => up (.good (hjump (.inl e)))) (fun _ => ?_)
 refine .ite (fun e => absurd e hl.2.2) (fun _ => ?_)
 refine .ite (fun e => make_res hz h _ _) (fun _ => ?_)
 refine .ite (fun e => prim_res hz hB h R) (fun _ => ?_)
 refine .ite (fun e => .sm h1 (.refl _) _) (fun _ => ?_)
 unfold dValue
 refine .ite (fun e => .good (h1.drop _ _)) (fun _ => ?_)
 refine .ite (fun e => pu _) (fun _ => ?_)
 refine .ite (fun e => up (hiff e)) (fun _ => ?_)
 refine .ite (fun e => up (send_res hz h R op (by omega))) (fun _ => ?_)
 refine .ite (fun e => absurd e hl.1) (fun _ => ?_)
 refine .ite (fun e => absurd e hl.2.1) (fun _ => ?_)
 exact .sm h1 (.refl _) _
theorem do_last (hz : SzOk O) (h : WFX [δ.f] O B σ) (R : Run σ δ) (ha : δ.arg = (cFetch (σ.u.me δ.x.method).code δ.x.pc).2.1)
  (hl : (cFetch (σ.u.me δ.x.method).code δ.x.pc).1 = 14 \/ (cFetch (σ.u.me δ.x.method).code δ.x.pc).1 = 19 \/ (cFetch (σ.u.me δ.x.method).code δ.x.pc).1 = 16) : Res δ.f O (B + 2) σ (dDo O σ δ (cFetch (σ.u.me δ.x.method).code δ.x.pc).1) := by
 obtain ⟨r0,r1,r2,r3,r4⟩ := R.code h
 have hback := pc_back (h.g.me R.g.m) (h.bytes R.g.m) R.g.pc
 rw [<- ha] at hback r0 r1
 have hno : ∀ k,Res δ.f O (B + 2) σ (k,σ) \/ k = 0 := fun k => by
  by_cases e : k = 0
  ·exact .inr e
  ·exact .inl ⟨fun h => absurd h e,fun _ => ⟨h.mono (by omega),rfl,rfl⟩⟩
 have no : ∀ k : Int,k ≠ 0 -> Res δ.f O (B + 2) σ (k,σ) := fun k e => (hno k).resolve_right e
 generalize (cFetch (σ.u.me δ.x.method).code δ.x.pc).1 = op at *
 have h0 := R.f0
 obtain ⟨C,hC⟩ := h.p.ch
 obtain ⟨c1,c2⟩ := hC.of δ.p.toNat (by have := R.hp; omega)
 rw [R.hf] at c1
 unfold dDo
 rw [if_neg (by omega),if_neg (by omega),if_neg (by omega),if_neg (by omega),if_neg (by omega),if_neg (by omega),if_neg (by omega),if_neg (by omega),if_neg (by omega)]
 by_cases e16 : op = 16
 ·rw [if_pos e16]
  refine .good ((h.mono (Nat.le_add_right B 2)).pl (h.p.goto1 _ R.is ?_))
  have hg := R.g
  have e1 := R.m; have e2 := R.sl; have e3 := R.st
  rw [wrap_id (x := 2 * δ.arg) (by omega) (by omega),wrap_id (by omega) (by omega)]
  exact ⟨by rw [e1]; exact hg.m,by show PcOk (σ.u.me (σ.pool.fr δ.f).method).code _; rw [e1]; exact hback e16,by show ((σ.pool.fr δ.f).slots.length : Int) = (σ.u.me (σ.pool.fr δ.f).method).args + (σ.u.me (σ.pool.fr δ.f).method).temps; rw [e1,e2]; exact hg.sl,by show (σ.pool.fr δ.f).stack.length <= 8; rw [e3]; exact hg.st⟩
 rw [if_neg e16,if_neg (by omega),if_neg (by omega)]
 split
 ·exact no 1 (by omega)
 unfold dValue
 rw [if_neg (by omega),if_neg (by omega),if_neg (by omega),if_neg (by omega)]
 by_cases e14 : op = 14
 ·rw [if_pos e14]
  refine .good ?_
  cases hc : C δ.p.toNat with
  | nil => rw [hc] at c1; have : δ.f < 0 := c1; omega
  | cons a L2 =>
   rw [hc] at c1
   obtain ⟨rfl,u1,u2⟩ := c1
   rw [R.s] at u2
   exact back_wf hz h R.hp R.hq (by rw [R.hf]; exact h0.1) hC (l := [δ.f]) (L2 := L2) hc (fun y hy => hy) u2 _
 rw [if_neg e14,if_pos (by omega)]
 unfold dHome
 dsimp only
 split
 ·exact no 6 (by omega)
 ·rename_i hh
  split
  ·exact no 6 (by omega)
  ·cases hp : pPath σ.pool δ.x.home 24 δ.f with
   | none => exact no 6 (by omega)
   | some l =>
    simp only
    obtain ⟨L2,e,hL2⟩ := pPath_chain 24 c1 h0.1 hp
    have hpa : (pAt σ.pool δ.x.home).1.sender = (σ.pool.fr δ.x.home).sender := by
     unfold pAt at hh ⊢
     split at hh
     ·rename_i hi; rw [if_pos hi]
     ·exact absurd rfl hh
    rw [<- hpa] at hL2
    refine .good (back_wf hz h R.hp R.hq (by rw [R.hf]; exact h0.1) hC e (fun y hy => ?_) hL2 _)
    rw [List.mem_singleton.1 hy]
    cases l with
    | nil =>
     unfold pPath at hp
     split at hp
     ·cases hp
     ·split at hp
      ·cases hp
      ·cases hx : pPath σ.pool δ.x.home 23 (pAt σ.pool δ.f).1.sender <;> rw [hx] at hp <;> cases hp
    | cons a l' =>
     rw [e] at c1
     rw [c1.1]; exact List.mem_cons_self
theorem run_sM (h : WF O B σ) (hq : 0 <= qFirst σ.queue) : Run (sM σ) (sD σ) := by
 have ht := h.p.qi.tk (by rw [take1]; exact hq)
 rw [take1] at ht
 obtain ⟨t1,t2,_,_⟩ := ht
 have h0 := (h.p.inn _ (by omega)).1 t2
 obtain ⟨C,hC⟩ := h.p.ch
 have c1 := (hC.of (qFirst σ.queue).toNat (by omega)).1
 have his : pIs σ.pool (σ.top.getD (qFirst σ.queue).toNat 0) = true := by
  cases hc : C (qFirst σ.queue).toNat with
  | nil => rw [hc] at c1; have : σ.top.getD (qFirst σ.queue).toNat 0 < 0 := c1; omega
  | cons a L2 => rw [hc] at c1; rw [c1.1]; exact c1.2.1
 have hr := pIs_range his
 have hx : sX σ = σ.pool.fr (σ.top.getD (qFirst σ.queue).toNat 0) := by unfold sX pAt; rw [if_pos his]
 have hfr : ∀ pc,(pGoto σ.pool (σ.top.getD (qFirst σ.queue).toNat 0) pc).fr (σ.top.getD (qFirst σ.queue).toNat 0) = { σ.pool.fr (σ.top.getD (qFirst σ.queue).toNat 0) with pc := pc } := fun pc => by
  unfold pGoto
  rw [if_pos his,fr_put h.p.len.l hr hr.1,if_pos rfl]
 refine ⟨⟨hq,t1⟩,rfl,rfl,?_,?_,?_,?_,?_,?_⟩
 ·show pIs (pGoto _ _ _) _ = true
  unfold pGoto
  rw [if_pos his]; exact his
 ·show ((pGoto σ.pool (σ.top.getD (qFirst σ.queue).toNat 0) _).fr (σ.top.getD (qFirst σ.queue).toNat 0)).method = (sX σ).method
  rw [hfr,hx]
 ·show ((pGoto σ.pool (σ.top.getD (qFirst σ.queue).toNat 0) _).fr (σ.top.getD (qFirst σ.queue).toNat 0)).sender = (sX σ).sender
  rw [hfr,hx]
 ·show ((pGoto σ.pool (σ.top.getD (qFirst σ.queue).toNat 0) _).fr (σ.top.getD (qFirst σ.queue).toNat 0)).slots = (sX σ).slots
  rw [hfr,hx]
 ·show ((pGoto σ.pool (σ.top.getD (qFirst σ.queue).toNat 0) _).fr (σ.top.getD (qFirst σ.queue).toNat 0)).stack = (sX σ).stack
  rw [hfr,hx]
 ·show FGood σ.u (sX σ)
  rw [hx]; exact h.p.good _ his
theorem sM_X (h : WF O B σ) : WFX [(sD σ).f] O B (sM σ) := ⟨h.g,h.by_,h.d,h.p.gotoX _,h.kept,h.copied,h.cp,h.ca,h.ev,h.sz⟩
theorem sM_wf (h : WF O B σ) (hq : 0 <= qFirst σ.queue) (hl : (sI σ).1 ≠ 14 /\ (sI σ).1 ≠ 19 /\ (sI σ).1 ≠ 16) : WF O B (sM σ) := by
 have R := run_sM h hq
 obtain ⟨_,_,r2,r3,r4⟩ := R.code (sM_X h)
 have hn := pc_next (h.g.me (σ := σ) R.g.m) R.g.pc hl
 refine ⟨h.g,h.by_,h.d,?_,h.kept,h.copied,h.cp,h.ca,h.ev,h.sz⟩
 refine h.p.goto _ _ fun hi => ?_
 have e : (σ.pool.fr (σ.top.getD (qFirst σ.queue).toNat 0)).method = (sX σ).method := by
  unfold sX pAt; rw [if_pos hi]
 rw [e]
 have hw : IntKind.wrap .i64 ((sX σ).pc + 2) = (sX σ).pc + 2 := wrap_id (by have : 0 <= (sX σ).pc := r2; omega) (by have : (sX σ).pc + 1 < (σ.u.me (sX σ).method).code.length := r3; have : (σ.u.me (sX σ).method).code.length <= 128 := r4; omega)
 rw [hw]; exact hn
end
end
section
section
variable {α : Type} {O : StoreOps α} {σ σ1 σ2 : TM α} {X Y : List Int} {B B' : Nat} {δ : TD}
theorem nArgs_rng {u : TUnit} (hg : UGood u) {n : Int} (hn : 0 <= n /\ n < u.names.length) : 0 <= nArgs (u.names.getD n.toNat ⟨#[]⟩) /\ nArgs (u.names.getD n.toNat ⟨#[]⟩) <= 16 := by
 have hm : u.names.getD n.toNat ⟨#[]⟩ ∈ u.names := List.mem_of_getElem? (getD_some (by omega))
 obtain ⟨h1,h2⟩ := hg.names.1 _ hm
 generalize u.names.getD n.toNat ⟨#[]⟩ = s at *
 unfold nArgs
 rw [h1]
 simp only [Bool.not_true,Bool.false_eq_true,if_false]
 split
 ·omega
 ·have : Lib.countByte s.data.toList 58 <= s.data.toList.length := List.count_le_length
  have e : s.data.toList.length = s.size := Array.length_toList
  omega
theorem lit_sel {m : TMethod} {n c k : Nat} (hg : MGood m n c k) {i : Int} (h0 : 0 <= i) {kind : Int} (h : cLiteral m.lits i kind = true) : i < m.lits.length /\ (m.lits.getD i.toNat default).kind = kind /\ cLit (m.lits.getD i.toNat default) n c k = true := by
 simp only [cLiteral,Bool.and_eq_true,ZJ] at h
 exact ⟨h.1,h.2,hg.lits _ (List.mem_of_getElem? (getD_some (by omega)))⟩
theorem run_pre (h : WFX X O B σ) (R : Run σ δ) (hB : B <= 200000) (ha : δ.arg = (cFetch (σ.u.me δ.x.method).code δ.x.pc).2.1) : Pre O σ δ (cFetch (σ.u.me δ.x.method).code δ.x.pc).1 := by
 obtain ⟨r0,r1,r2,r3,r4⟩ := R.code h
 have hm := h.g.me R.g.m
 have hi := inst_at hm R.g.pc
 have hev := h.ev; have hsz := h.sz
 have hcp := h.cp δ.f.toNat
 have hsl := R.g.sl
 have hsh := hm.sh
 obtain ⟨C,hC⟩ := h.p.ch
 obtain ⟨c1,c2⟩ := hC.of δ.p.toNat (by have := R.hp; omega)
 rw [R.hf] at c1
 rw [<- ha] at hi r0 r1
 generalize (cFetch (σ.u.me δ.x.method).code δ.x.pc).1 = op at *
 have hme : σ.meth δ.x.method = σ.u.me δ.x.method := rfl
 unfold cInst at hi
 have i2 : op = 2 \/ op = 20 \/ op = 18 -> δ.arg < (σ.meth δ.x.method).lits.length := by
  intro e
  rw [hme]
  rcases e with rfl | rfl | rfl
  ·exact (lit_sel hm r0 (kind := 3) (by simpa using hi)).1
  ·have : cLiteral (σ.u.me δ.x.method).lits δ.arg 6 = true := by simp at hi; exact hi.1
   exact (lit_sel hm r0 this).1
  ·exact (lit_sel hm r0 (kind := 7) (by simpa using hi)).1
 have i20 : op = 20 -> 0 <= σ.litN δ /\ σ.litN δ < σ.u.classes.length := by
  rintro rfl
  have h6 : cLiteral (σ.u.me δ.x.method).lits δ.arg 6 = true := by simp at hi; exact hi.1
  obtain ⟨_,k,l⟩ := lit_sel hm r0 h6
  unfold cLit at l
  rw [if_neg (by omega),if_neg (by omega),if_pos k] at l
  simp only [Bool.and_eq_true,ZJ] at l
  exact l
 have i12 : op = 12 \/ op = 13 -> δ.arg < (σ.meth δ.x.method).lits.length /\ ((σ.meth δ.x.method).lits.getD δ.arg.toNat default).kind = 5 /\ (0 <= (mArgs σ.u δ.x.method δ.arg).1 /\ (mArgs σ.u δ.x.method δ.arg).1 <= 900) := by
  intro e
  have h5 : cLiteral (σ.u.me δ.x.method).lits δ.arg 5 = true := by rcases e with rfl | rfl <;> simpa using hi
  obtain ⟨a,k,l⟩ := lit_sel hm r0 h5
  unfold cLit at l
  rw [if_neg (by omega),if_pos k] at l
  simp only [Bool.and_eq_true,ZJ] at l
  have := nArgs_rng h.g l
  exact ⟨a,k,this.1,by have := this.2; show nArgs _ <= 900; exact Int.le_trans this (by omega)⟩
 refine ⟨h.g,h.p.qi,by omega,by omega,h.p.len.u,h.p.top6,R.hp,R.f0,R.g.m,?_,⟨by omega,by omega⟩,⟨_,c1,c2⟩,r0,?_,i2,i20,?_,?_⟩
 ·rw [h.d]; simp [uDicts]
 ·rintro rfl
  rw [if_pos (.inl rfl),decide_eq_true_eq,wrap_id (by omega) (by omega)] at hi
  omega
 ·intro e
  obtain ⟨a,b,c⟩ := i12 e
  refine ⟨a,b,c,fun s c' h0 => ?_⟩
  exact ((mFind_ok (σ := { σ with s := s }) (u := σ.u) (by show ∀ D ∈ σ.dicts,_; rw [h.d]; exact uDicts_ok h.g) h.ca c' (mArgs σ.u δ.x.method δ.arg).2).1 h0).2.1
 ·rintro rfl
  simpa using hi
theorem sR_res (hz : SzOk O) (h : WF O B σ) (hB : B <= 200000) (hq : 0 <= qFirst σ.queue) : Res (sD σ).f O (B + 2) (sM σ) (sR O σ) := by
 have R := run_sM h hq
 have hX := sM_X h
 have e : (cFetch ((sM σ).u.me (sD σ).x.method).code (sD σ).x.pc) = sI σ := rfl
 by_cases hl : (sI σ).1 ≠ 14 /\ (sI σ).1 ≠ 19 /\ (sI σ).1 ≠ 16
 ·have pre := run_pre hX R hB (by rw [e]; rfl)
  rw [e] at pre
  have := do_res hz hB (sM_wf h hq hl) R (by
   by_cases e12 : (sI σ).1 = 12 \/ (sI σ).1 = 13
   ·exact .inl (pre.i12 e12).2.2.1.1
   ·right; rw [e]; omega) (by rw [e]; rfl) (by rw [e]; exact hl)
  rw [e] at this
  exact this.mono (by omega)
 ·have := do_last hz hX R (by rw [e]; rfl) (by rw [e]; omega)
  rw [e] at this
  exact this
theorem sR_q (hz : SzOk O) (h : WF O B σ) (hB : B <= 200000) (hq : 0 <= qFirst σ.queue) (hr : (sR O σ).1 ≠ 0) : WFX [(sD σ).f] O (B + 2) (sR O σ).2 /\ qFirst (sR O σ).2.queue = qFirst σ.queue /\ (sR O σ).2.top = σ.top := by
 obtain ⟨a,b,c⟩ := (sR_res hz h hB hq).no hr
 exact ⟨a,by rw [b]; rfl,c⟩
structure Liv (O : StoreOps α) (B : Nat) (σ : TM α) : Prop where
 some : ∃ X,WFX X O B σ
 all : σ.halted = false -> WF O B σ
theorem Liv.mono (h : Liv O B σ) (hB : B <= B') : Liv O B' σ := by
 obtain ⟨X,hX⟩ := h.some
 exact ⟨⟨X,hX.mono hB⟩,fun e => (h.all e).mono hB⟩
theorem WFX.liv (h : WF O B σ) : Liv O B σ := ⟨⟨_,h⟩,fun _ => h⟩
theorem Liv.qi (h : Liv O B σ) : QInv σ.queue := by
 obtain ⟨X,hX⟩ := h.some
 exact hX.p.qi
theorem Liv.spre (hz : SzOk O) (h : Liv O B σ) (hB : B <= 200000) : SPre O σ := by
 refine ⟨h.qi,fun hh hq => ?_⟩
 have hw := h.all hh
 have R := run_sM hw hq
 have hX := sM_X hw
 have r := sR_res hz hw hB hq
 have pre := run_pre hX R hB rfl
 refine ⟨pre,?_,fun _ h0 => ?_⟩
 ·by_cases e : (sR O σ).1 = 0
  ·have := (r.ok e).ev; omega
  ·have := (r.no e).1.ev; omega
 ·obtain ⟨a,b,c⟩ := sR_q hz hw hB hq h0
  refine ⟨a.p.qi,?_⟩
  obtain ⟨C,hC⟩ := a.p.ch
  have hp := R.hp
  obtain ⟨c1,c2⟩ := hC.of (qFirst σ.queue).toNat (by show (qFirst σ.queue).toNat < 6; have : 0 <= qFirst σ.queue /\ qFirst σ.queue < 6 := hp; omega)
  exact ⟨_,c1,c2⟩
theorem Liv.step (hz : SzOk O) (h : Liv O B σ) (hB : B <= 200000) : Liv O (B + 4) (mStep O σ).2 := by
 unfold mStep
 split
 ·exact h.mono (by omega)
 ·rename_i hh
  split
  ·exact h.mono (by omega)
  ·rename_i hq
   have hw := h.all (by simpa using hh)
   have hq' : 0 <= qFirst σ.queue := by omega
   have R := run_sM hw hq'
   have r := sR_res hz hw hB hq'
   split
   ·rename_i e
    have a := (r.no (by omega)).1
    exact ⟨⟨_,((a.halt true).tell 5 0 ⟨0,0⟩).mono (by omega)⟩,fun e => by cases e⟩
   ·split
    ·rename_i e
     exact ((r.ok e).mono (by omega)).liv
    ·rename_i e
     obtain ⟨a,b,c⟩ := sR_q hz hw hB hq' e
     have := mFail_wf a (p := qFirst σ.queue) R.hp b (f := (sD σ).f) (by rw [c]; rfl) R.f0.1 (fun y hy => List.mem_singleton.1 hy) (sR O σ).1
     exact WFX.liv this
theorem Liv.post (h : Liv O B σ) (s : Int) : Liv O B (mPost σ s) := by
 have go : ∀ {X},WFX X O B σ -> WFX X O B (mPost σ s) := fun hX => by
  obtain ⟨a,b⟩ := hX.p.qi.post s
  exact hX.chg (hX.p.queue a b)
 obtain ⟨X,hX⟩ := h.some
 exact ⟨⟨X,go hX⟩,fun e => go (h.all e)⟩
theorem Liv.inp (h : Liv O B σ) (n : Int) : Liv O B (mInput σ n) := by
 unfold mInput
 split
 ·obtain ⟨X,hX⟩ := h.some
  exact ⟨⟨X,hX.inp _⟩,fun e => (h.all e).inp _⟩
 ·exact h
theorem mStart_wf (hg : UGood σ.u) (hb : ∀ m ∈ σ.u.methods,Bytes m.code) {s : α} (hs : O.size s <= B) (ids : List Int) : WF O B (mStart σ.u s ids) := by
 have h0 : WF O B (mZero σ.u s) := by
  refine ⟨hg,hb,rfl,⟨⟨rfl,rfl⟩,rfl,fun i _ hi => ?_,qInv_new,fun p hp => ?_,fun _ => [],?_⟩,rfl,rfl,fun k => ?_,?_,by show 0 <= B; omega,hs⟩
  ·have hr := pIs_range hi
   have : ∀ k : Nat,k < 24 -> pIs pNew k = false := by decide
   have := this i.toNat (by omega)
   rw [show ((i.toNat : Nat) : Int) = i by omega] at this
   rw [show pIs pNew i = true from hi] at this; cases this
  ·have : ∀ p : Nat,p < 6 -> (qNew.inn.getD p false = true ↔ 0 <= (List.replicate 6 (-1 : Int)).getD p 0) := by decide
   exact this p hp
  ·refine ⟨fun p hp => ⟨?_,List.nodup_nil⟩,fun _ _ _ _ _ x hx => by cases hx⟩
   have : ∀ p : Nat,p < 6 -> (List.replicate 6 (-1 : Int)).getD p 0 < 0 := by decide
   exact this p hp
  ·show 0 <= (List.replicate 24 (0 : Int)).getD k 0 /\ (List.replicate 24 (0 : Int)).getD k 0 <= 4 * (B : Int)
   have : (List.replicate 24 (0 : Int)).getD k 0 = 0 := by
    rw [List.getD_eq_getElem?_getD,List.getElem?_replicate]
    split <;> rfl
   rw [this]; omega
  ·intro x hx hu
   have : x ∈ List.replicate 32 (⟨false,0,0,0⟩ : TLine) := hx
   rw [List.eq_of_mem_replicate this] at hu; cases hu
 unfold mStart
 have := fork_wf h0 (by show pFree pNew ≠ 0; decide) (method := σ.u.main) (by show _ /\ _ < (σ.u.methods.length : Int); have := hg.main; omega) (by show (0 : Int) = (σ.u.me σ.u.main).args; exact hg.main.2.2.symm) (wOop (ids.getD 0 0)) (-1) 0 (k := 0) (by omega) (by show (List.replicate 6 (-1 : Int)).getD 0 0 < 0; decide) (n := 1) (by omega)
 exact this
end
end
section
theorem book_Same_ok {w : World} {ok1 ok2 : Nat -> Prop} {p1 p2 : Option Addr} {n1 c1 n2 c2 : Nat} {l : List Int} (h1 : Sl w.heap ok1 eU32 p1 n1 c1 l) (h2 : Sl w.heap ok2 eU32 p2 n2 c2 l) : Calls P F.Z7 #[.slice p1 n1 c1,.slice p2 n2 c2] w fun en w' => en = .returned (.bool true) /\ w'.heap = w.heap := by
 refine oZ7 ?_
 unfold vZ7
 have e1 := h1.len; have e2 := h2.len; have s1 := h1.small
 rw [show (!(decide ((n1 : Int) = (n2 : Int)))) = false by simp; omega,br_false]
 refine ⟨fun t w' => ∃ k : Nat,t = (k : Int) /\ k <= n1 /\ w'.heap = w.heap,fun t _ => n1 - t.toNat,⟨0,rfl,by omega,rfl⟩,?_⟩
 rintro t w1 ⟨k,rfl,hk,hw⟩
 refine br_of (fun h => ?_) (fun h => ?_) <;> simp only [ZJ,ZK,ZL,ZM,ZN,ZO,ZP,ZQ,ZR] at h
 ·rw [wv_eq]
  have hw' : w1.drew.heap = w.heap := hw
  generalize w1.drew = w2 at *
  refine chk_of (by simp; omega) ?_
  have h1' : Sl w2.heap ok1 eU32 p1 n1 c1 l := by rw [hw']; exact h1
  have h2' : Sl w2.heap ok2 eU32 p2 n2 c2 l := by rw [hw']; exact h2
  refine h1'.idx1 (i := k) (getD_some (d := 0) (by omega)) ?_; intro g o _ hc
  refine ⟨_,hc,?_⟩
  refine chk_of (by simp; omega) ?_
  refine h2'.idx1 (i := k) (getD_some (d := 0) (by omega)) ?_; intro g o _ hc
  refine ⟨_,hc,?_⟩
  simp only [decide_true,Bool.not_true,br_false]
  rw [wrap_id (by omega) (by omega)]
  exact ⟨⟨k + 1,by omega,by omega,hw'⟩,by (first | omega | (dsimp only; omega))⟩
 ·exact ⟨rfl,hw⟩
theorem event_neq (e : TEvent) {ox oy : Operand} (w : World) : (do eqGuard .neq T.api_Event ox oy (.agg #[.int .i64 e.kind,.int .i64 e.proc,.int .i64 e.val.kind,.int .i64 e.val.n]) (.agg #[.int .i64 e.kind,.int .i64 e.proc,.int .i64 e.val.kind,.int .i64 e.val.n]); binOp .neq T.api_Event (.agg #[.int .i64 e.kind,.int .i64 e.proc,.int .i64 e.val.kind,.int .i64 e.val.n]) (.agg #[.int .i64 e.kind,.int .i64 e.proc,.int .i64 e.val.kind,.int .i64 e.val.n]) : Sem Value).run P w = .ok (.bool false) w := by
 have := agg_neq (P := P) (t := T.api_Event) (xs := [.int .i64 e.kind,.int .i64 e.proc,.int .i64 e.val.kind,.int .i64 e.val.n]) (ys := [.int .i64 e.kind,.int .i64 e.proc,.int .i64 e.val.kind,.int .i64 e.val.n]) (fs := P.fieldsOf T.api_Event) (b := (decide (e.kind = e.kind) && (decide (e.proc = e.proc) && ((decide (e.val.kind = e.val.kind) && (decide (e.val.n = e.val.n) && true)) && true)))) (ox := ox) (oy := oy) (by kernel_rfl) (by kernel_rfl) (by kernel_rfl) w
 simpa using this
theorem event_eql (a b : TEvent) {ox oy : Operand} (w : World) : (do eqGuard .eql T.api_Event ox oy (.agg #[.int .i64 a.kind,.int .i64 a.proc,.int .i64 a.val.kind,.int .i64 a.val.n]) (.agg #[.int .i64 b.kind,.int .i64 b.proc,.int .i64 b.val.kind,.int .i64 b.val.n]); binOp .eql T.api_Event (.agg #[.int .i64 a.kind,.int .i64 a.proc,.int .i64 a.val.kind,.int .i64 a.val.n]) (.agg #[.int .i64 b.kind,.int .i64 b.proc,.int .i64 b.val.kind,.int .i64 b.val.n]) : Sem Value).run P w = .ok (.bool (decide (a.kind = b.kind) && (decide (a.proc = b.proc) && ((decide (a.val.kind = b.val.kind) && (decide (a.val.n = b.val.n) && true)) && true)))) w :=
 agg_eql (P := P) (t := T.api_Event) (xs := [.int .i64 a.kind,.int .i64 a.proc,.int .i64 a.val.kind,.int .i64 a.val.n]) (ys := [.int .i64 b.kind,.int .i64 b.proc,.int .i64 b.val.kind,.int .i64 b.val.n]) (fs := P.fieldsOf T.api_Event) (ox := ox) (oy := oy) (by kernel_rfl) (by kernel_rfl) (by kernel_rfl) w
theorem ref18_Events_ok {w : World} {ok1 ok2 : Nat -> Prop} {p1 p2 : Option Addr} {n1 c1 n2 c2 : Nat} {l : List TEvent} (h1 : Sl w.heap ok1 eEvent p1 n1 c1 l) (h2 : Sl w.heap ok2 eEvent p2 n2 c2 l) : Calls P F.Zc #[.slice p1 n1 c1,.slice p2 n2 c2] w fun en w' => en = .returned (.bool true) /\ w'.heap = w.heap := by
 refine oZc ?_
 unfold vZc
 have e1 := h1.len; have e2 := h2.len; have s1 := h1.small
 rw [show (!(decide ((n1 : Int) = (n2 : Int)))) = false by simp; omega,br_false]
 refine ⟨fun t w' => ∃ k : Nat,t = (k : Int) /\ k <= n1 /\ w'.heap = w.heap,fun t _ => n1 - t.toNat,⟨0,rfl,by omega,rfl⟩,?_⟩
 rintro t w1 ⟨k,rfl,hk,hw⟩
 refine br_of (fun h => ?_) (fun h => ?_) <;> simp only [ZJ,ZK,ZL,ZM,ZN,ZO,ZP,ZQ,ZR] at h
 ·rw [wv_eq]
  have hw' : w1.drew.heap = w.heap := hw
  generalize w1.drew = w2 at *
  refine chk_of (by simp; omega) ?_
  refine Sl.idx (by rw [hw']; exact h1) (i := k) (getD_some (d := default) (by omega)) ?_; intro g o _ hc
  refine ⟨_,_,_,_,hc,?_⟩
  refine chk_of (by simp; omega) ?_
  refine Sl.idx (by rw [hw']; exact h2) (i := k) (getD_some (d := default) (by omega)) ?_; intro g o _ hc
  refine ⟨_,_,_,_,hc,false,fun w => event_neq _ w,?_⟩
  rw [br_false,wrap_id (by omega) (by omega)]
  exact ⟨⟨k + 1,by omega,by omega,hw'⟩,by (first | omega | (dsimp only; omega))⟩
 ·exact ⟨rfl,hw⟩
structure Mo (h : Hp) (A : Nat -> Prop) (m : Nat) (K : MK) (σ : TM TIdeal) : Prop where
 st : K.st = T.p_store_Ideal
 is : IsM IsIdeal h A m K σ
 lt : ∀ y,A y -> y < h.size
section
variable {h h' : Hp} {A B S : Nat -> Prop} {m mb : Nat} {K Kb : MK} {σ τ : TM TIdeal} {w w' : World}
theorem ideal_sp (hst : K.st = T.p_store_Ideal) : StoreSp sOps K.st IsIdeal := by rw [hst]; exact idealSp
theorem Mo.fr (mo : Mo h A m K σ) (hF : Fr S h h') (hS : ∀ y,A y -> ¬ S y) : Mo h' A m K σ := by
 obtain ⟨ev,inp,κ,mc⟩ := mo.is
 exact ⟨mo.st,⟨ev,inp,κ,mc.fr (ideal_sp mo.st) hF (fun y _ hy => hS y hy) fun y _ hy => hy⟩,fun y hy => Nat.lt_of_lt_of_le (mo.lt y hy) hF.le⟩
theorem Mo.nw (mo : Mo h A m K σ) (hF : Nw h h') : Mo h' A m K σ := mo.fr hF fun _ _ e => e
theorem Mo.inv (mo : Mo h A m K σ) : Inv sOps IsIdeal (fun y => A y \/ h.size <= y) h.size h m K σ := by
 obtain ⟨ev,inp,κ,mc⟩ := mo.is
 exact ⟨ideal_sp mo.st,Nat.le_refl _,fun y hy => .inr hy,ev,inp,κ,mc.fr (ideal_sp mo.st) (Fr.refl (fun _ => False) h) (fun _ _ _ e => e) fun y _ hy => .inl hy⟩
theorem Mo.back {n0 : Nat} {OK : Nat -> Prop} (hst : K.st = T.p_store_Ideal) (hI : Inv sOps IsIdeal OK n0 h' m K τ) : Mo h' (fun y => OK y /\ y < h'.size) m K τ := by
 obtain ⟨ev,inp,κ,mc⟩ := hI.mc
 exact ⟨hst,⟨ev,inp,κ,mc.fr (ideal_sp hst) (Fr.refl (fun _ => False) h') (fun _ _ _ e => e) fun y hy e => ⟨e,hy⟩⟩,fun y hy => hy.2⟩
structure Two (h : Hp) (n m mb : Nat) (K Kb : MK) (σ τ : TM TIdeal) : Prop where
 ex : ∃ A B,Mo h A m K σ /\ Mo h B mb Kb τ /\ (∀ y,A y -> ¬ B y) /\ (∀ y,A y -> n <= y) /\ ∀ y,B y -> n <= y
 le : n <= h.size
variable {n : Nat}
theorem Two.symm (t : Two h n m mb K Kb σ τ) : Two h n mb m Kb K τ σ := by
 obtain ⟨A,B,a,b,d,e,f⟩ := t.ex
 exact ⟨⟨B,A,b,a,fun y hb ha => d y ha hb,f,e⟩,t.le⟩
theorem Two.nw (t : Two h n m mb K Kb σ τ) (hF : Nw h h') : Two h' n m mb K Kb σ τ := by
 obtain ⟨A,B,a,b,d,e,f⟩ := t.ex
 exact ⟨⟨A,B,a.nw hF,b.nw hF,d,e,f⟩,Nat.le_trans t.le hF.le⟩
theorem Two.inv (t : Two h n m mb K Kb σ τ) : ∃ OK,Inv sOps IsIdeal OK h.size h m K σ /\ ∀ {h' : Hp} {σ' : TM TIdeal},Inv sOps IsIdeal OK h.size h' m K σ' -> Fr OK h h' -> Two h' n m mb K Kb σ' τ /\ Fr (fun y => n <= y) h h' := by
 obtain ⟨A,B,a,b,d,e1,e2⟩ := t.ex
 have hle := t.le
 refine ⟨_,a.inv,fun {h' σ'} hI hF => ⟨⟨⟨_,B,Mo.back a.st hI,b.fr hF fun y hy e => ?_,fun y hy hb => ?_,fun y hy => ?_,e2⟩,Nat.le_trans hle hF.le⟩,hF.mono fun y _ hy => ?_⟩⟩
 ·rcases e with e | e
  ·exact d y e hy
  ·have := b.lt y hy; omega
 ·rcases hy.1 with e | e
  ·exact d y e hb
  ·have := b.lt y hb; omega
 ·rcases hy.1 with e | e
  ·exact e1 y e
  ·omega
 ·rcases hy with e | e
  ·exact e1 y e
  ·omega
theorem Two.step {k : Nat} (t : Two w.heap n m mb K Kb σ τ) (hL : Liv sOps k σ) (hk : k <= 200000) : Calls P F.Z4 #[.pointer (some ⟨m,0,none⟩)] w fun en w' => en = .returned (.bool (mStep sOps σ).1) /\ Two w'.heap n m mb K Kb (mStep sOps σ).2 τ /\ Fr (fun y => n <= y) w.heap w'.heap := by
 obtain ⟨OK,hI,back⟩ := t.inv
 refine (act_Step_ok hI (hL.spre idealSp.sz hk)).mono ?_; rintro _ w1 ⟨rfl,hI1,hF1⟩
 exact ⟨rfl,back hI1 hF1⟩
theorem Two.halted (t : Two w.heap n m mb K Kb σ τ) : Calls P F.Z5 #[.pointer (some ⟨m,0,none⟩)] w fun en w' => en = .returned (.bool σ.halted) /\ w'.heap = w.heap := by
 obtain ⟨OK,hI,back⟩ := t.inv
 refine (act_Halted_ok hI).mono ?_; rintro _ w1 ⟨rfl,n,rfl⟩
 exact ⟨rfl,rfl⟩
theorem Two.why (t : Two w.heap n m mb K Kb σ τ) : Calls P F.Z6 #[.pointer (some ⟨m,0,none⟩)] w fun en w' => en = .returned (.int .i64 σ.why) /\ w'.heap = w.heap := by
 obtain ⟨OK,hI,back⟩ := t.inv
 refine (act_Why_ok hI).mono ?_; rintro _ w1 ⟨rfl,n,rfl⟩
 exact ⟨rfl,rfl⟩
theorem Two.roots (t : Two w.heap n m mb K Kb σ τ) : Calls P F.Z8 #[.pointer (some ⟨m,0,none⟩)] w fun en w' => ∃ k,NewSl eU32 (pRoots σ.pool) k w en w' := by
 obtain ⟨OK,hI,back⟩ := t.inv
 exact act_Roots_ok hI
theorem Two.events {k : Nat} (t : Two w.heap n m mb K Kb σ τ) (hL : Liv sOps k σ) (hk : k <= 200000) : Calls P F.Z9 #[.pointer (some ⟨m,0,none⟩)] w (NewSl eEvent σ.events σ.events.length w) := by
 obtain ⟨OK,hI,back⟩ := t.inv
 obtain ⟨X,hX⟩ := hL.some
 have := hX.ev
 exact act_Events_ok hI (by omega)
theorem Two.post {k : Nat} (t : Two w.heap n m mb K Kb σ τ) (hL : Liv sOps k σ) (s : Int) : Calls P F.Za #[.pointer (some ⟨m,0,none⟩),.int .i64 s] w fun en w' => en = .returned (.tuple #[]) /\ Two w'.heap n m mb K Kb (mPost σ s) τ /\ Fr (fun y => n <= y) w.heap w'.heap := by
 obtain ⟨OK,hI,back⟩ := t.inv
 refine (act_Post_ok hI hL.qi s).mono ?_; rintro _ w1 ⟨rfl,hI1,hF1⟩
 exact ⟨rfl,back hI1 hF1⟩
theorem Two.input (t : Two w.heap n m mb K Kb σ τ) (s : Int) : Calls P F.Zb #[.pointer (some ⟨m,0,none⟩),.int .i64 s] w fun en w' => en = .returned (.tuple #[]) /\ Two w'.heap n m mb K Kb (mInput σ s) τ /\ Fr (fun y => n <= y) w.heap w'.heap := by
 obtain ⟨OK,hI,back⟩ := t.inv
 refine (act_Input_ok hI s).mono ?_; rintro _ w1 ⟨rfl,hI1,hF1⟩
 exact ⟨rfl,back hI1 hF1⟩
end
theorem alloc_all {u : TUnit} (hg : UGood u) (σ : TIdeal) : ∀ k,k <= u.objects.length -> ∃ ids σ',lAllocN sOps u.objects σ k = (some ids,σ')
 | 0,_ => ⟨[],σ,rfl⟩
 | k + 1,hk => by
  obtain ⟨ids,σ',e⟩ := alloc_all hg σ k (by omega)
  have ho := hg.objects (u.objects.getD k default) (List.mem_of_getElem? (getD_some (by omega)))
  have h1 := ho.cls; have h2 := ho.len; have h3 := hg.classes.len
  have ha : ¬ (sOps.alloc σ' (u.objects.getD k default).cls (u.objects.getD k default).fields.length).1 < 0 := by
   show ¬ (sAlloc _ _ _).1 < 0
   unfold sAlloc
   rw [if_neg (by omega)]
   show ¬ ((σ'.length : Int) + 4 < 0)
   omega
  simp only [lAllocN,e]
  rw [if_neg ha]
  exact ⟨_,_,rfl⟩
theorem lPutN_size (ids : List Int) (d : Int) (vs : List TVal) (σ : TIdeal) : ∀ k,sOps.size (lPutN sOps ids d vs σ k) <= sOps.size σ
 | 0 => Nat.le_refl _
 | k + 1 => Nat.le_trans (idealSp.szP _ _ _ _) (lPutN_size ids d vs σ k)
theorem lObjN_size (ids : List Int) (objs : List TObj) (σ : TIdeal) : ∀ k,sOps.size (lObjN sOps ids objs σ k) <= sOps.size σ
 | 0 => Nat.le_refl _
 | k + 1 => Nat.le_trans (lPutN_size _ _ _ _ _) (lObjN_size ids objs σ k)
theorem mNew_all {u : TUnit} (hg : UGood u) : ∃ ids s,mNew sOps [] u = some (mStart u s ids) /\ sOps.size s <= 40 := by
 obtain ⟨ids,σ',e⟩ := alloc_all hg [] u.objects.length (Nat.le_refl _)
 have h1 := lAllocN_size idealSp u.objects [] u.objects.length
 rw [e] at h1
 refine ⟨ids,lObjN sOps ids u.objects σ' u.objects.length,?_,?_⟩
 ·unfold mNew lLoad
  rw [e]
 ·have := lObjN_size ids u.objects σ' u.objects.length
  have := hg.len
  have h0 : sOps.size ([] : TIdeal) = 0 := rfl
  simp only at h1
  omega
end
section
def Own (h : Hp) (n : Nat) (m : Nat) (K : MK) (σ : TM TIdeal) : Prop := ∃ A,Mo h A m K σ /\ ∀ y,A y -> n <= y
section
variable {h h' : Hp} {n m : Nat} {K : MK} {σ τ : TM TIdeal} {w w' : World}
theorem Own.inv (t : Own h n m K σ) : ∃ OK,Inv sOps IsIdeal OK h.size h m K σ /\ (n <= h.size -> ∀ {h' : Hp} {σ' : TM TIdeal},Inv sOps IsIdeal OK h.size h' m K σ' -> Fr OK h h' -> Own h' n m K σ' /\ Fr (fun y => n <= y) h h') := by
 obtain ⟨A,a,hA⟩ := t
 refine ⟨_,a.inv,fun hn {h' σ'} hI hF => ⟨⟨_,Mo.back a.st hI,fun y hy => ?_⟩,hF.mono fun y hy e => ?_⟩⟩
 ·rcases hy.1 with e | e
  ·exact hA y e
  ·omega
 ·rcases e with e | e
  ·exact hA y e
  ·omega
theorem Own.nw (t : Own h n m K σ) (hF : Nw h h') : Own h' n m K σ := by
 obtain ⟨A,a,hA⟩ := t
 exact ⟨A,a.nw hF,hA⟩
theorem Own.le (t : Own h n m K σ) : n <= h.size := by
 obtain ⟨A,a,hA⟩ := t
 obtain ⟨ev,inp,κ,mc⟩ := a.is
 have h1 := hA m mc.okm
 have h2 := a.lt m mc.okm
 omega
theorem Own.step {k : Nat} (t : Own w.heap n m K σ) (hL : Liv sOps k σ) (hk : k <= 200000) : Calls P F.Z4 #[.pointer (some ⟨m,0,none⟩)] w fun en w' => en = .returned (.bool (mStep sOps σ).1) /\ Own w'.heap n m K (mStep sOps σ).2 /\ Fr (fun y => n <= y) w.heap w'.heap := by
 have hle := t.le
 obtain ⟨OK,hI,back⟩ := t.inv
 refine (act_Step_ok hI (hL.spre idealSp.sz hk)).mono ?_; rintro _ w1 ⟨rfl,hI1,hF1⟩
 exact ⟨rfl,back hle hI1 hF1⟩
theorem Own.events {k : Nat} (t : Own w.heap n m K σ) (hL : Liv sOps k σ) (hk : k <= 200000) : Calls P F.Z9 #[.pointer (some ⟨m,0,none⟩)] w (NewSl eEvent σ.events σ.events.length w) := by
 obtain ⟨OK,hI,back⟩ := t.inv
 obtain ⟨X,hX⟩ := hL.some
 have := hX.ev
 exact act_Events_ok hI (by omega)
theorem Own.halted (t : Own w.heap n m K σ) : Calls P F.Z5 #[.pointer (some ⟨m,0,none⟩)] w fun en w' => en = .returned (.bool σ.halted) /\ w'.heap = w.heap := by
 obtain ⟨OK,hI,back⟩ := t.inv
 refine (act_Halted_ok hI).mono ?_; rintro _ w1 ⟨rfl,n,rfl⟩
 exact ⟨rfl,rfl⟩
theorem Own.roots (t : Own w.heap n m K σ) : Calls P F.Z8 #[.pointer (some ⟨m,0,none⟩)] w fun en w' => ∃ n,NewSl eU32 (pRoots σ.pool) n w en w' := by
 obtain ⟨OK,hI,back⟩ := t.inv
 exact act_Roots_ok hI
end
theorem mach_New_ok {w : World} {n4 b : Nat} {oku : Nat -> Prop} {c : CUnit} {u : TUnit} (hI : IsIdeal w.heap (fun y => n4 <= y) (.pointer (some ⟨b,0,none⟩)) []) (hn : n4 <= w.heap.size) (hu : IsUnit w.heap oku c u) (hou : ∀ y,y < w.heap.size -> oku y -> y < n4) (hg : UGood u) :
  Calls P F.Z2 #[.agg #[.slice c.names.p c.names.n c.names.c,.slice c.classes.p c.classes.n c.classes.c,.slice c.methods.p c.methods.n c.methods.c,.slice c.objects.p c.objects.n c.objects.c,.int .i64 c.main],.iface T.p_store_Ideal (.pointer (some ⟨b,0,none⟩))] w fun en w' =>
   ∃ m K ids s,en = .returned (.pointer (some ⟨m,0,none⟩)) /\ mNew sOps [] u = some (mStart u s ids) /\ sOps.size s <= 40 /\ Own w'.heap n4 m K (mStart u s ids) /\ Fr (fun y => n4 <= y) w.heap w'.heap := by
 obtain ⟨ids,s,e,hs⟩ := mNew_all hg
 refine (act_New_ok idealSp hI hu hg (fun y hy h1 h2 => by have := hou y hy h1; omega) (by show 0 + 40 < 1000000; omega)).mono ?_
 intro en w' h
 unfold NewTo at h
 rw [e] at h
 obtain ⟨m,K,rfl,h1,h2,h3,h4⟩ := h
 obtain ⟨ev,inp,κ,mc⟩ := h3
 refine ⟨m,K,ids,s,rfl,e,hs,⟨fun y => Old (fun y => n4 <= y) w.heap y /\ y < w'.heap.size,⟨h1,⟨ev,inp,κ,mc.fr (ideal_sp h1) (Fr.refl (fun _ => False) _) (fun _ _ _ e => e) fun y hy e => ⟨e,hy⟩⟩,fun y hy => hy.2⟩,fun y hy => ?_⟩,h4⟩
 rcases hy.1 with h | h <;> omega
def uKnown : TUnit := ⟨[],[⟨⟨#[66]⟩,-1,4,[]⟩,⟨⟨#[65]⟩,-1,0,[]⟩],[⟨0,0,[],[7,7,21,10,7,0,21,3,14,0]⟩],[⟨1,[]⟩],0⟩
theorem uKnown_good : UGood uKnown := by
 refine ⟨by decide,⟨by simp [uKnown],by decide,by simp [uKnown]⟩,⟨by decide,by decide,by decide,fun i x hx => ?_⟩,fun c hc => ?_,fun m hm => ?_,fun c hc b hb => ?_,fun o ho => ?_,by decide⟩
 ·have hi : i = 0 \/ i = 1 := by
   have := (List.getElem?_eq_some_iff.1 hx).1
   simp [uKnown] at this; omega
  rcases hi with rfl | rfl
  ·simp [uKnown] at hx; subst hx
   exact ⟨by decide,fun j y hj _ => by omega,⟨by decide,by decide,.inl rfl⟩,⟨by decide,by simp,by simp⟩⟩
  ·simp [uKnown] at hx; subst hx
   refine ⟨by decide,fun j y hj hy => ?_,⟨by decide,by decide,.inl rfl⟩,⟨by decide,by simp,by simp⟩⟩
   obtain rfl : j = 0 := by omega
   simp [uKnown] at hy; subst hy
   kernel_rfl
 ·simp [uKnown] at hc
  rcases hc with rfl | rfl <;> kernel_rfl
 ·simp [uKnown] at hm; subst hm
  refine ⟨by decide,by decide,by simp,fun j hj => ?_⟩
  have : j = 0 \/ j = 1 \/ j = 2 \/ j = 3 \/ j = 4 := by simp at hj; omega
  rcases this with rfl | rfl | rfl | rfl | rfl <;> exact ⟨by kernel_rfl,by kernel_rfl⟩
 ·simp [uKnown] at hc
  rcases hc with rfl | rfl <;> simp at hb
 ·simp [uKnown] at ho; subst ho
  exact ⟨by decide,by decide,by decide,by simp⟩
theorem uKnown_bytes : ∀ m ∈ uKnown.methods,Bytes m.code := by
 intro m hm
 simp [uKnown] at hm; subst hm
 intro x hx
 simp at hx; omega
def runN (σ : TM TIdeal) : Nat -> TM TIdeal
 | 0 => σ
 | k + 1 => (mStep sOps (runN σ k)).2
theorem runN_liv {σ : TM TIdeal} {B : Nat} (h : Liv sOps B σ) : ∀ k,k <= 2000 -> B <= 1000 -> Liv sOps (B + 4 * k) (runN σ k)
 | 0,_,_ => h
 | k + 1,hk,hB => by
  have := (runN_liv h k (by omega) hB).step idealSp.sz (by omega)
  rw [show B + 4 * (k + 1) = B + 4 * k + 4 by omega]
  exact this
def kn0 : TM TIdeal := mStart uKnown [(1,[])] [4]
theorem kn_new : mNew sOps [] uKnown = some kn0 := by kernel_rfl
theorem kn_step : ∀ k : Nat,k < 4 -> (mStep sOps (runN kn0 k)).1 = true := by
 intro k hk
 have : (List.range 4).all (fun k => (mStep sOps (runN kn0 k)).1) = true := by kernel_rfl
 exact List.all_eq_true.1 this k (List.mem_range.2 hk)
theorem kn_end : (mStep sOps (runN kn0 4)).1 = false := by kernel_rfl
theorem kn_ev : (runN kn0 5).events = [⟨1,0,⟨3,7⟩⟩,⟨3,0,⟨3,3⟩⟩,⟨4,0,⟨0,0⟩⟩] := by kernel_rfl
theorem kn_halt : (runN kn0 5).halted = true := by kernel_rfl
theorem kn_roots : pRoots (runN kn0 5).pool = [] := by kernel_rfl
end
section
theorem law21_known_ok (w : World) : Calls P F.Zd #[] w (Mk (.bool true) w) := by
 refine oZd ?_
 unfold vZd
 refine newB_i ?_; intro b w1 b_eq hB hN1 w1_sz; try simp only [drew_heap',dr_heap] at b_eq hN1
 refine newB_i ?_; intro b1 w2 b1_eq hB1 hN2 w2_sz; try simp only [drew_heap',dr_heap] at b1_eq hN2
 refine newB_i ?_; intro b2 w3 b2_eq hB2 hN3 w3_sz; try simp only [drew_heap',dr_heap] at b2_eq hN3
 refine newB_i ?_; intro b3 w4 b3_eq hB3 hN4 w4_sz; try simp only [drew_heap',dr_heap] at b3_eq hN4
 refine newB_i ?_; intro b4 w5 b4_eq hB4 hN5 w5_sz; try simp only [drew_heap',dr_heap] at b4_eq hN5
 refine stores_i hB4 (by simp [sets_length]) ?_; intro w6 hB6 hF6 w6_sz; try simp only [drew_heap',dr_heap] at w6_sz hF6
 simp only [sets,ZH,ZI] at hB6
 rw [wv_eq]
 have hu : IsUnit w6.heap (fun y => y < w6.heap.size) ⟨hd0,⟨some ⟨b,0,none⟩,2,2⟩,⟨some ⟨b2,0,none⟩,1,1⟩,⟨some ⟨b3,0,none⟩,1,1⟩,0⟩ uKnown := by
  have e0 : Bk w6.heap b (recs eClass [⟨⟨#[66]⟩,-1,4,hd0⟩,⟨⟨#[65]⟩,-1,0,hd0⟩]) := ((((hB.nw hN2).nw hN3).nw hN4).nw hN5).fr hF6 (by omega)
  have e1 : Bk w6.heap b1 (recs eU8 [7,7,21,10,7,0,21,3,14,0]) := (((hB1.nw hN3).nw hN4).nw hN5).fr hF6 (by omega)
  have e2 : Bk w6.heap b2 (recs eMethod [⟨0,0,hd0,⟨some ⟨b1,0,none⟩,10,10⟩⟩]) := ((hB2.nw hN4).nw hN5).fr hF6 (by omega)
  have e3 : Bk w6.heap b3 (recs eObj [⟨1,hd0⟩]) := (hB3.nw hN5).fr hF6 (by omega)
  exact ⟨Sl.nil,⟨_,Sl.of_blk (ok := fun y => y < w6.heap.size) (n := 2) e0 e0.lt rfl (by omega),(All2.nil.cons ⟨rfl,rfl,rfl,Sl.nil⟩).cons ⟨rfl,rfl,rfl,Sl.nil⟩⟩,⟨_,Sl.of_blk (ok := fun y => y < w6.heap.size) (n := 1) e2 e2.lt rfl (by omega),All2.nil.cons ⟨rfl,rfl,Sl.nil,Sl.of_blk (ok := fun y => y < w6.heap.size) (n := 10) e1 e1.lt rfl (by omega),uKnown_bytes _ (by simp [uKnown])⟩⟩,⟨_,Sl.of_blk (ok := fun y => y < w6.heap.size) (n := 1) e3 e3.lt rfl (by omega),All2.nil.cons ⟨rfl,Sl.nil⟩⟩,rfl⟩
 have hN6 : Nw w.heap w6.heap := (((((hN1.tr hN2).tr hN3).tr hN4).tr hN5)).st hF6 (by have := hN1.le; have := hN2.le; have := hN3.le; have := hN4.le; omega)
 replace hu : IsUnit w6.drew.heap (fun y => y < w6.drew.heap.size) ⟨hd0,⟨some ⟨b,0,none⟩,2,2⟩,⟨some ⟨b2,0,none⟩,1,1⟩,⟨some ⟨b3,0,none⟩,1,1⟩,0⟩ uKnown := hu
 replace hB6 : Bk w6.drew.heap b4 _ := hB6
 replace hN6 : Nw w.heap w6.drew.heap := hN6
 generalize w6.drew = w7 at *
 clear hF6 hB4 hN5 hB3 hN4 hB2 hN3 hB1 hN2 hB hN1
 refine ⟨none,0,0,some ⟨b,0,none⟩,2,2,some ⟨b2,0,none⟩,1,1,some ⟨b3,0,none⟩,1,1,0,hB6.holds,?_⟩
 refine (store_New_ok w7).mono ?_; rintro _ w8 ⟨sb,rfl,hI,hN8⟩
 have hB8 := hB6.nw hN8
 refine ⟨_,rfl,⟨hB8.holds,trivial⟩,?_⟩
 have hlt7 := hB6.lt
 have hu8 := hu.nw hN8
 refine (mach_New_ok (n4 := w7.heap.size) hI hN8.le hu8 (fun y _ h => h) uKnown_good).mono ?_; rintro _ w9 ⟨m,K,ids,s,rfl,e,hs,own,F9⟩
 have e2 : mStart uKnown s ids = kn0 := by
  have := e.symm.trans kn_new
  exact Option.some.inj this
 have hL : Liv sOps 100 kn0 := by
  rw [<- e2]; exact (mStart_wf (σ := ⟨uKnown,s,pNew,qNew,caNew,[],[],[],[],[],[],false,0,0,0⟩) uKnown_good uKnown_bytes (by omega) ids).liv
 rw [e2] at own
 have hB9 := hB8.fr F9 (by omega)
 have hN9 : Nw w.heap w9.heap := (hN6.tr hN8).tr' F9 fun y hy => by have := hN6.le; omega
 refine ⟨_,rfl,trivial,?_⟩
 refine join_of (fun _ w' => Own w'.heap w7.heap.size m K kn0 /\ Nw w.heap w'.heap) ?_ ?_
 ·clear own hB9 hN9 F9 hB8 hN8 hI hu8 hu hB6
  rintro _ w10 ⟨own,hN10⟩
  refine ⟨fun t w' => ∃ k : Nat,t = (k : Int) /\ k <= 4 /\ Own w'.heap w7.heap.size m K (runN kn0 k) /\ Nw w.heap w'.heap,fun t _ => 20 - t.toNat,⟨0,rfl,by omega,own,hN10⟩,?_⟩
  clear own hN10
  clear w10
  rintro t w10 ⟨k,rfl,hk,own,hN10⟩
  refine br_of (fun h1 => ?_) (fun h1 => ?_) <;> simp only [ZJ,ZK] at h1
  ·have hLk := runN_liv hL k (by omega) (by omega)
   refine (own.step hLk (by omega)).mono ?_; rintro _ w11 ⟨rfl,own1,F11⟩
   refine ⟨_,rfl,?_⟩
   have hN11 : Nw w.heap w11.heap := hN10.tr' F11 fun y hy => by have := hN6.le; omega
   by_cases h4 : k < 4
   ·rw [kn_step k h4,br_true,wrap_id (by omega) (by omega)]
    exact ⟨⟨k + 1,by omega,by omega,own1,hN11⟩,by (first | omega | (dsimp only; omega))⟩
   ·obtain rfl : k = 4 := by omega
    rw [kn_end,br_false]
    have hL5 := runN_liv hL 5 (by omega) (by omega)
    replace own1 : Own w11.heap w7.heap.size m K (runN kn0 5) := own1
    refine (own1.events hL5 (by omega)).mono ?_; rintro _ w12 ⟨p,c,rfl,hsl,hN12⟩
    refine ⟨_,_,_,rfl,?_⟩
    have own2 := own1.nw hN12
    rw [kn_ev] at hsl
    refine br_of (fun _ => ?_) (fun h => ?_)
    case refine_2 => exfalso; simp at h
    refine br_of (fun _ => ?_) (fun h => ?_)
    case refine_2 => exfalso; rw [kn_ev] at h; simp at h
    obtain ⟨g,o,hp,_,h0⟩ := hsl.hold (i := 0) rfl
    obtain ⟨g',o',hp',_,h1⟩ := hsl.hold (i := 1) rfl
    obtain ⟨g'',o'',hp'',_,h2⟩ := hsl.hold (i := 2) rfl
    rw [hp] at hp' hp''
    simp only [Z3,ZG,and_true] at hp' hp''
    obtain ⟨rfl,rfl⟩ := hp'
    obtain ⟨rfl,rfl⟩ := hp''
    refine chk_of (by rw [kn_ev]; simp) ?_
    rw [hp,onPtr_some]
    refine ⟨1,0,3,7,h0,true,fun w => event_eql ⟨1,0,⟨3,7⟩⟩ ⟨1,0,⟨3,7⟩⟩ w,?_⟩
    rw [br_true]
    refine chk_of (by rw [kn_ev]; simp) ?_
    rw [onPtr_some]
    refine ⟨3,0,3,3,h1,true,fun w => event_eql ⟨3,0,⟨3,3⟩⟩ ⟨3,0,⟨3,3⟩⟩ w,?_⟩
    rw [br_true]
    refine chk_of (by rw [kn_ev]; simp) ?_
    rw [onPtr_some]
    refine ⟨4,0,0,0,h2,true,fun w => event_eql ⟨4,0,⟨0,0⟩⟩ ⟨4,0,⟨0,0⟩⟩ w,?_⟩
    rw [br_true]
    refine own2.halted.mono ?_; rintro _ w13 ⟨rfl,hw13⟩
    refine ⟨_,rfl,?_⟩
    rw [kn_halt,br_true]
    refine (Own.roots (w := w13) (by rw [hw13]; exact own2)).mono ?_; rintro _ w14 ⟨n,p2,c2,rfl,hs2,hN14⟩
    refine ⟨_,_,_,rfl,?_⟩
    have hl := hs2.len
    rw [kn_roots] at hl
    rw [show (decide ((n : Int) = 0)) = true by simp at hl; simp; omega]
    exact ⟨rfl,(hN11.tr hN12).tr (by rw [<- hw13]; exact hN14)⟩
  ·omega
 ·intro J hJ
  simp only [Option.isNone_some,br_false]
  refine (store_New_ok w9).mono ?_; rintro _ w10 ⟨sb2,rfl,_,hN10⟩
  refine ⟨_,rfl,?_⟩
  refine (act_New_zero_ok _ _ w10).mono ?_; rintro _ w11 ⟨rfl,hN11⟩
  refine ⟨_,rfl,?_⟩
  simp only [Option.isNone_none,Bool.not_true,br_false]
  have hB11 := (hB9.nw hN10).nw hN11
  refine ⟨none,0,0,some ⟨b,0,none⟩,2,2,some ⟨b2,0,none⟩,1,1,some ⟨b3,0,none⟩,1,1,0,hB11.holds,?_⟩
  refine (act_New_nil_ok ⟨hd0,⟨some ⟨b,0,none⟩,2,2⟩,⟨some ⟨b2,0,none⟩,1,1⟩,⟨some ⟨b3,0,none⟩,1,1⟩,0⟩ w11).mono ?_; rintro _ w12 ⟨rfl,hN12⟩
  refine ⟨_,rfl,?_⟩
  simp only [Option.isNone_none,Bool.not_true,br_false]
  exact hJ _ _ ⟨((own.nw hN10).nw hN11).nw hN12,((hN9.tr hN10).tr hN11).tr hN12⟩
end
section
section
variable {w : World} {S : Nat -> Prop} {p : Option Addr} {n c : Nat} {l : List Int}
theorem mHalt_step {σ : TM TIdeal} (h : σ.halted = true) : mStep sOps σ = (false,σ) := by unfold mStep; rw [if_pos h]
theorem mInput_halted (σ : TM TIdeal) (x : Int) : (mInput σ x).halted = σ.halted /\ (mInput σ x).events = σ.events := by
 unfold mInput
 split <;> exact ⟨rfl,rfl⟩
set_option maxRecDepth 20000 in
theorem law21_ActAgain_ok (hs : Rd w.heap S p n l) : Calls P F.Z0 #[.slice p n c] w (Mk (.bool true) w) := by
 refine oZ0 ?_
 unfold vZ0
 refine newB_i ?_; intro b w1 b_eq hB hN1 w1_sz; try simp only [drew_heap',dr_heap] at b_eq hN1
 have hT : IsTape (b + 1) w1.heap b := ⟨p,n,c,0,l,hB,by omega,by omega,hs.fr hN1 (fun _ _ _ e => e) fun y hy _ => ⟨by omega,by omega⟩⟩
 refine (keep_Unit_ok hT (by omega)).mono ?_; rintro _ w2 ⟨cu,u,rfl,hu,huok,hTx,F2⟩
 refine ⟨_,_,_,_,_,_,_,_,_,_,_,_,_,rfl,?_⟩
 have hg := huok.good
 have hN2 : Nw w.heap w2.heap := hN1.st F2 (by omega)
 have hle2 := hN2.le
 refine newB_i ?_; intro b1 w3 b1_eq hB1 hN3 w3_sz; try simp only [drew_heap',dr_heap] at b1_eq hN3
 refine stores_i hB1 (by simp [sets_length]) ?_; intro w4 hB4 hF4 w4_sz; try simp only [drew_heap',dr_heap] at w4_sz hF4
 simp only [sets,ZH,ZI] at hB4
 have hu2 := hu.fr (ok' := fun y => y < w2.heap.size) (Fr.refl (fun _ => False) w2.heap) (fun _ _ _ e => e) (fun y hy _ => hy)
 have hu4 := (hu2.nw hN3).fr (ok' := fun y => y < w2.heap.size) hF4 (fun y hy h e => by omega) (fun y hy h => h)
 have hle3 := hN3.le
 have hN4 : Nw w.heap w4.heap := (hN2.tr hN3).st hF4 (by omega)
 rw [wv_eq]
 replace hB4 : Bk w4.drew.heap b1 cu.vs := hB4
 replace hu4 : IsUnit w4.drew.heap (fun y => y < w2.heap.size) cu u := hu4
 replace hN4 : Nw w.heap w4.drew.heap := hN4
 have hsz5 : w2.heap.size <= w4.drew.heap.size := by show w2.heap.size <= w4.heap.size; omega
 generalize w4.drew = w5 at *
 refine ⟨_,_,_,_,_,_,_,_,_,_,_,_,_,hB4.holds,_,_,_,_,_,_,_,_,_,_,_,_,_,hB4.holds,?_⟩
 clear hTx hu hu2 hT F2 hB1 hN3 hF4 hB hN1
 refine (store_New_ok w5).mono ?_; rintro _ w6 ⟨sa,rfl,hIa,hN6⟩
 have hB6 := hB4.nw hN6
 refine ⟨_,rfl,⟨hB6.holds,hB6.holds,trivial⟩,?_⟩
 have hlt5 := hB4.lt
 refine (mach_New_ok (n4 := w5.heap.size) hIa hN6.le (hu4.nw hN6) (fun y _ h => by omega) hg).mono ?_; rintro _ w7 ⟨ma,Ka,ids,s,rfl,ea,hsz,owna,F7⟩
 have hB7 := hB6.fr F7 (by omega)
 refine ⟨_,rfl,⟨hB7.holds,trivial⟩,?_⟩
 have hu7 := ((hu4.nw hN6).fr (ok' := fun y => y < w2.heap.size) F7 (fun y _ h e => by omega) (fun y _ h => h))
 have hle7 := F7.le; have hle6 := hN6.le
 refine (store_New_ok w7).mono ?_; rintro _ w8 ⟨sb,rfl,hIb,hN8⟩
 have hB8 := hB7.nw hN8
 refine ⟨_,rfl,⟨hB8.holds,trivial⟩,?_⟩
 refine (mach_New_ok (n4 := w7.heap.size) hIb hN8.le (hu7.nw hN8) (fun y _ h => by omega) hg).mono ?_; rintro _ w9 ⟨mb,Kb,ids',s',rfl,eb,hsz',ownb,F9⟩
 have e2 : mStart u s' ids' = mStart u s ids := Option.some.inj (eb.symm.trans ea)
 rw [e2] at ownb
 have hle9 := F9.le; have hle8 := hN8.le
 have two : Two w9.heap w5.heap.size ma mb Ka Kb (mStart u s ids) (mStart u s ids) := by
  obtain ⟨A,moa,hA⟩ := owna
  obtain ⟨B,mob,hB⟩ := ownb
  exact ⟨⟨A,B,(moa.nw hN8).fr F9 (fun y hy e => by have := moa.lt y hy; omega),mob,fun y h1 h2 => by have := moa.lt y h1; have := hB y h2; omega,hA,fun y hy => by have := hB y hy; omega⟩,by omega⟩
 have hL : Liv sOps 100 (mStart u s ids) := (mStart_wf (σ := ⟨u,s,pNew,qNew,caNew,[],[],[],[],[],[],false,0,0,0⟩) hg huok.bytes (by omega) ids).liv
 have hle5 := hN4.le
 have hN9 : Nw w.heap w9.heap := (((hN4.tr hN6).tr' F7 fun y hy => by omega).tr hN8).tr' F9 fun y hy => by omega
 generalize mStart u s ids = σ at *
 generalize w5.heap.size = n0 at *
 clear e2 ownb eb hsz' F9 hB8 hIb hN8 hu7 hB7 F7 owna ea hsz hB6 hIa hN6 hB4 hu4 hN4 hg huok hle9 hle8 hle7 hle6 hlt5 hsz5 hle3 hN2 hle2
 clear b_eq b1_eq w1_sz w3_sz w4_sz
 clear w2 w3 w4 w5 w6 w7 w8
 refine ⟨_,rfl,trivial,?_⟩
 refine join_of (fun _ w' => Two w'.heap n0 ma mb Ka Kb σ σ /\ Nw w.heap w'.heap) ?_ ?_
 case refine_2 =>
  intro J hJ
  simp only [Option.isNone_some,br_false]
  exact hJ _ _ ⟨two,hN9⟩
 clear two hN9
 clear w9
 rintro _ w10 ⟨two,hN10⟩
 refine ⟨fun t w' => ∃ k : Nat,t = (k : Int) /\ k <= 200 /\ Two w'.heap n0 ma mb Ka Kb (runN σ k) (runN σ k) /\ Nw w.heap w'.heap,fun t _ => 200 - t.toNat,⟨0,rfl,by omega,two,hN10⟩,?_⟩
 clear two hN10
 clear w10
 intro t w10 hInv
 obtain ⟨k,hk0,hk,two,hN10⟩ := hInv
 subst hk0
 have hLk := runN_liv hL k (by omega) (by omega)
 have old : ∀ {h h' : Hp},Nw w.heap h -> Fr (fun y => n0 <= y) h h' -> Nw w.heap h' := fun h1 h2 => h1.tr' h2 fun y hy => by omega
 refine br_of (fun h1 => ?_) (fun h1 => ?_) <;> simp only [ZJ,ZK] at h1
 ·refine (two.step hLk (by omega)).mono ?_; rintro _ w11 ⟨rfl,two1,F11⟩
  refine ⟨_,rfl,?_⟩
  refine (two1.symm.step hLk (by omega)).mono ?_; rintro _ w12 ⟨rfl,two2,F12⟩
  refine ⟨_,rfl,?_⟩
  replace two2 : Two w12.heap n0 ma mb Ka Kb (runN σ (k + 1)) (runN σ (k + 1)) := two2.symm
  have hN12 := old (old hN10 F11) F12
  simp only [beq_self_eq_true,Bool.not_true,br_false]
  refine two2.halted.mono ?_; rintro _ w13 ⟨rfl,hw13⟩
  refine ⟨_,rfl,?_⟩
  rw [<- hw13] at two2 hN12
  refine two2.symm.halted.mono ?_; rintro _ w14 ⟨rfl,hw14⟩
  refine ⟨_,rfl,?_⟩
  rw [<- hw14] at two2 hN12
  simp only [beq_self_eq_true,Bool.not_true,br_false]
  refine two2.why.mono ?_; rintro _ w15 ⟨rfl,hw15⟩
  refine ⟨_,rfl,?_⟩
  rw [<- hw15] at two2 hN12
  refine two2.symm.why.mono ?_; rintro _ w16 ⟨rfl,hw16⟩
  refine ⟨_,rfl,?_⟩
  rw [<- hw16] at two2 hN12
  simp only [decide_true,Bool.not_true,br_false]
  refine two2.roots.mono ?_; rintro _ w17 ⟨n1,p1,c1,rfl,hs1,hN17⟩
  refine ⟨_,_,_,rfl,?_⟩
  have two3 := two2.nw hN17
  refine two3.symm.roots.mono ?_; rintro _ w18 ⟨n2,p2,c2,rfl,hs2,hN18⟩
  refine ⟨_,_,_,rfl,?_⟩
  have two4 := two3.nw hN18
  refine (book_Same_ok (hs1.nw hN18) hs2).mono ?_; rintro _ w19 ⟨rfl,hw19⟩
  refine ⟨_,rfl,?_⟩
  have hN18' := (hN12.tr hN17).tr hN18
  rw [<- hw19] at two4 hN18'
  simp only [Bool.not_true,br_false]
  rw [wrap_id (by omega) (by omega)]
  exact ⟨⟨k + 1,by omega,by omega,two4,hN18'⟩,by (first | omega | (dsimp only; omega))⟩
 ·refine (two.events hLk (by omega)).mono ?_; rintro _ w11 ⟨p1,c1,rfl,hs1,hN11⟩
  refine ⟨_,_,_,rfl,?_⟩
  have two1 := two.nw hN11
  refine join_of (fun _ w' => ∃ σ1 : TM TIdeal,σ1.events = (runN σ k).events /\ Liv sOps (100 + 4 * k) σ1 /\ Two w'.heap n0 ma mb Ka Kb σ1 (runN σ k) /\ Nw w.heap w'.heap) ?_ ?_
  ·rintro _ w12 ⟨σ1,he,hL1,two2,hN12⟩
   refine (two2.events hL1 (by omega)).mono ?_; rintro _ w13 ⟨p2,c2,rfl,hs2,hN13⟩
   refine ⟨_,_,_,rfl,?_⟩
   have two3 := two2.nw hN13
   refine (two3.symm.events hLk (by omega)).mono ?_; rintro _ w14 ⟨p3,c3,rfl,hs3,hN14⟩
   refine ⟨_,_,_,rfl,?_⟩
   rw [he] at hs2 ⊢
   refine (ref18_Events_ok (hs2.nw hN14) hs3).mono ?_; rintro _ w15 ⟨rfl,hw15⟩
   refine ⟨_,rfl,?_⟩
   rw [br_true]
   have hN15 := (hN12.tr hN13).tr hN14
   rw [<- hw15] at hN15
   refine (law21_known_ok w15).mono ?_; rintro _ w16 ⟨rfl,hN16⟩
   exact ⟨_,rfl,rfl,hN15.tr hN16⟩
  ·intro J hJ
   refine two1.halted.mono ?_; rintro _ w12 ⟨rfl,hw12⟩
   refine ⟨_,rfl,?_⟩
   have hN12 := hN10.tr hN11
   rw [<- hw12] at two1 hN12
   cases hh : (runN σ k).halted with
   | false => rw [br_false]; exact hJ _ _ ⟨_,rfl,hLk,two1,hN12⟩
   | true =>
    rw [br_true]
    refine (two1.post hLk 1).mono ?_; rintro _ w13 ⟨rfl,two2,F13⟩
    refine ⟨rfl,?_⟩
    refine (two2.input 5).mono ?_; rintro _ w14 ⟨rfl,two3,F14⟩
    refine ⟨rfl,?_⟩
    have hL3 := (hLk.post 1).inp 5
    refine (two3.step hL3 (by omega)).mono ?_; rintro _ w15 ⟨rfl,two4,F15⟩
    refine ⟨_,rfl,?_⟩
    have hh3 : (mInput (mPost (runN σ k) 1) 5).halted = true := by rw [(mInput_halted _ _).1]; exact hh
    have he3 : (mInput (mPost (runN σ k) 1) 5).events = (runN σ k).events := (mInput_halted _ _).2
    rw [mHalt_step hh3] at two4 ⊢
    rw [br_false]
    refine (two4.events hL3 (by omega)).mono ?_; rintro _ w16 ⟨p2,c2,rfl,hs2,hN16⟩
    refine ⟨_,_,_,rfl,?_⟩
    have two5 := two4.nw hN16
    rw [show (!(decide (((mInput (mPost (runN σ k) 1) 5).events.length : Int) = ((runN σ k).events.length : Int)))) = false by rw [he3]; simp,br_false]
    exact hJ _ _ ⟨_,he3,hL3,two5,(old (old (old hN12 F13) F14) F15).tr hN16⟩
end
end
end Go.Proofs.YtbedadcbbnmpkaaGreatDoor
