/- Part 5 of what the proof rests on: SpTape, SpPiece, SpLits, SpMeth, VcFrame, SpFrame. No condition. -/
import Derived.Test.YtbedadcbbnmpkaaGreatDoorAd
set_option linter.unusedSimpArgs false
set_option linter.unusedVariables false
namespace Go.Proofs.YtbedadcbbnmpkaaGreatDoor
open Go Vc
section
theorem tmod_rng (x : Int) {n : Int} (hn : 0 < n) : -n < Int.tmod x n /\ Int.tmod x n < n /\ (0 <= x -> 0 <= Int.tmod x n) :=
 ⟨Int.lt_tmod_of_pos x hn,Int.tmod_lt_of_pos x hn,fun h => Int.tmod_nonneg n h⟩
theorem book_Within_ok (x : Int) (w : World) : Calls P F.Z13 #[.int .i64 x,.int .i64 0,.int .i64 1073741824] w fun en w' => ∃ y : Int,en = .returned (.int .i64 y) /\ 0 <= y /\ y <= 1073741824 /\ w' = w := by
 refine oZ13 ?_
 unfold vZ13
 rw [join_eq]
 have hJ : ∀ b : Bool,b = (!(decide (IntKind.wrap .i64 ((IntKind.wrap .i64 (1073741824 - 0)) + 1) = 0))) -> b = true := by
  rintro _ rfl; decide
 have e : IntKind.wrap .i64 ((IntKind.wrap .i64 ((1073741824 : Int) - 0)) + 1) = 1073741825 := by decide
 rw [e]
 obtain ⟨h1,h2,h3⟩ := tmod_rng x (n := 1073741825) (by omega)
 generalize Int.tmod x 1073741825 = r at *
 have go : chk (!(decide ((1073741825 : Int) = 0))) (br (decide (r < 0)) (∃ y : Int,Ending.returned (.int .i64 (IntKind.wrap .i64 (0 + (IntKind.wrap .i64 ((IntKind.wrap .i64 ((IntKind.wrap .i64 (r + 1073741824)) - 0)) + 1))))) = .returned (.int .i64 y) /\ 0 <= y /\ y <= 1073741824 /\ w = w) (∃ y : Int,Ending.returned (.int .i64 (IntKind.wrap .i64 (0 + r))) = .returned (.int .i64 y) /\ 0 <= y /\ y <= 1073741824 /\ w = w)) := by
  refine chk_of (by decide) ?_
  refine br_of (fun h => ?_) (fun h => ?_) <;> simp only [ZJ,ZK,ZL,ZM,ZN,ZO,ZP,ZQ,ZR] at h
  ·refine ⟨_,rfl,?_,?_,rfl⟩ <;> (rw [wrap_id (x := r + 1073741824) (by omega) (by omega),wrap_id (x := r + 1073741824 - 0) (by omega) (by omega),wrap_id (x := r + 1073741824 - 0 + 1) (by omega) (by omega),wrap_id (by omega) (by omega)]; omega)
  ·refine ⟨_,rfl,?_,?_,rfl⟩ <;> (rw [wrap_id (by omega) (by omega)]; omega)
 refine br_of (fun h0 => ?_) (fun h0 => ?_) <;> simp only [ZJ,ZK,ZL,ZM,ZN,ZO,ZP,ZQ,ZR] at h0
 ·refine br_of (fun h4 => ?_) (fun h4 => ?_) <;> simp only [ZJ,ZK,ZL,ZM,ZN,ZO,ZP,ZQ,ZR] at h4
  ·exact ⟨_,rfl,h0,h4,rfl⟩
  ·exact go
 ·exact go
def Rd (h : Hp) (S : Nat -> Prop) (p : Option Addr) (n : Nat) (l : List Int) : Prop := l.length = n /\ n <= 9223372036854775807 /\ (n ≠ 0 -> ∃ b o,p = some ⟨b,o,none⟩ /\ S b /\ ∃ cs ty fz,h[b]? = some (.cells cs ty fz) /\ ∀ i,i < n -> cs[o + i]? = some (.int .i64 (l.getD i 0)))
theorem Rd.fr {h h' : Hp} {S S' T : Nat -> Prop} {p : Option Addr} {n : Nat} {l : List Int} (r : Rd h S p n l) (hf : Fr T h h') (hd : ∀ b,b < h.size -> S b -> ¬ T b) (hS : ∀ b,b < h.size -> S b -> S' b) : Rd h' S' p n l := by
 refine ⟨r.1,r.2.1,fun hn => ?_⟩
 obtain ⟨b,o,e,hb,cs,ty,fz,hc,hi⟩ := r.2.2 hn
 have hlt := (Array.getElem?_eq_some_iff.1 hc).1
 exact ⟨b,o,e,hS b hlt hb,cs,ty,fz,by rw [hf.eq b hlt (hd b hlt hb)]; exact hc,hi⟩
theorem Rd.idx {w : World} {S : Nat -> Prop} {p : Option Addr} {n : Nat} {l : List Int} (r : Rd w.heap S p n l) {i : Nat} (hi : i < n) {K : Nat -> Nat -> Prop} (H : ∀ g o,w.cell? ⟨g,o + i * 1,none⟩ = some (.int .i64 (l.getD i 0)) -> K g o) : onPtr p K := by
 obtain ⟨b,o,e,hb,cs,ty,fz,hc,hx⟩ := r.2.2 (by omega)
 subst e
 refine H b o ?_
 rw [Nat.mul_one]
 simp [World.cell?,hc,hx i hi]
def IsTape (N : Nat) (h : Hp) (t : Nat) : Prop := ∃ (p : Option Addr) (n c a : Nat) (l : List Int),Bk h t [.slice p n c,.int .i64 (a : Int)] /\ a <= n /\ t < N /\ Rd h (fun y => y ≠ t /\ y < N) p n l
theorem IsTape.fr {N t : Nat} {h h' : Hp} {S : Nat -> Prop} (hT : IsTape N h t) (hf : Fr S h h') (hS : ∀ y,S y -> N <= y) : IsTape N h' t := by
 obtain ⟨p,n,c,a,l,hB,ha,ht,hs⟩ := hT
 exact ⟨p,n,c,a,l,hB.fr hf (fun e => by have := hS t e; omega),ha,ht,hs.fr hf (fun y _ hy e => by have := hS y e; omega) fun y _ hy => hy⟩
theorem IsTape.nw {N t : Nat} {h h' : Hp} (hT : IsTape N h t) (hf : Nw h h') : IsTape N h' t := hT.fr hf fun _ h => h.elim
theorem keep_Next_ok {N t : Nat} {w : World} (hT : IsTape N w.heap t) (n : Int) : Calls P F.Zf #[.pointer (some ⟨t,0,none⟩),.int .i64 n] w fun en w' => ∃ x : Int,en = .returned (.int .i64 x) /\ 0 <= x /\ (1 <= n -> x < n) /\ IsTape N w'.heap t /\ Fr (· = t) w.heap w'.heap := by
 refine oZf ?_
 unfold vZf
 have hT0 := hT
 obtain ⟨p,k,c,a,l,hB,ha,ht,hs⟩ := hT
 have hsm := hs.2.1; have hln := hs.1
 rw [join_eq,wv_eq]
 replace hB : Bk w.drew.heap t [.slice p k c,.int .i64 (a : Int)] := hB
 replace hs : Rd w.drew.heap (fun y => y ≠ t /\ y < N) p k l := hs
 have hF0 : Fr (· = t) w.heap w.drew.heap := Fr.refl _ _
 replace hT0 : IsTape N w.drew.heap t := hT0
 generalize w.drew = w1 at *
 refine ⟨a,by rw [hB.cell]; rfl,p,k,c,by rw [hB.cell]; rfl,?_⟩
 refine br_of (fun h1 => ?_) (fun h1 => ?_) <;> simp only [ZJ,ZK,ZL,ZM,ZN,ZO,ZP,ZQ,ZR] at h1
 ·exact ⟨0,rfl,by omega,fun h => by omega,hT0,hF0⟩
 ·refine br_of (fun h2 => ?_) (fun h2 => ?_) <;> simp only [ZJ,ZK,ZL,ZM,ZN,ZO,ZP,ZQ,ZR] at h2
  ·exact ⟨0,rfl,by omega,fun h => by omega,hT0,hF0⟩
  ·refine ⟨a,by rw [hB.cell]; rfl,?_⟩
   rw [wrap_id (x := (a : Int) + 1) (by omega) (by omega)]
   refine stores_i hB (by simp [sets_length]) ?_; intro w2 hB2 hF2 w2_sz; try simp only [drew_heap',dr_heap] at w2_sz hF2
   simp only [sets,ZH,ZI] at hB2
   rw [wv_eq]
   have hs2 := hs.fr (S' := fun y => y ≠ t /\ y < N) hF2 (fun y _ hy e => hy.1 e) (fun y _ hy => hy)
   replace hB2 : Bk w2.drew.heap t [.slice p k c,.int .i64 ((a : Int) + 1)] := hB2
   replace hs2 : Rd w2.drew.heap (fun y => y ≠ t /\ y < N) p k l := hs2
   replace hF2 : Fr (· = t) w1.heap w2.drew.heap := hF2
   generalize w2.drew = w3 at *
   refine ⟨p,k,c,by rw [hB2.cell]; rfl,(a : Int) + 1,by rw [hB2.cell]; rfl,?_⟩
   rw [wrap_id (x := (a : Int) + 1 - 1) (by omega) (by omega),show (a : Int) + 1 - 1 = a by omega]
   refine chk_of (by simp; omega) ?_
   simp only [Int.toNat_natCast]
   refine hs2.idx (i := a) (by omega) ?_; intro g o hc
   refine ⟨_,hc,?_⟩
   refine (book_Within_ok _ w3).mono ?_; rintro _ _ ⟨y,rfl,y0,y1,rfl⟩
   refine ⟨y,rfl,⟨by rw [hB2.cell]; rfl,by rw [hB2.cell]; rfl,trivial⟩,chk_of (by simp; omega) ?_⟩
   obtain ⟨m1,m2,m3⟩ := tmod_rng y (n := n) (by omega)
   exact ⟨_,rfl,m3 y0,fun _ => m2,⟨p,k,c,a + 1,l,by simpa using hB2,by omega,ht,hs2⟩,hF0.trans' hF2⟩
def ins (L : List (Int × Int)) : List Int := L.flatMap fun x => [x.1,x.2]
theorem ins_app (L M : List (Int × Int)) : ins (L ++ M) = ins L ++ ins M := by simp [ins]
theorem ins_len (L : List (Int × Int)) : (ins L).length = 2 * L.length := by
 induction L with
 | nil => rfl
 | cons x L ih => simp only [ins,List.flatMap_cons,List.length_append,List.length_cons,List.length_nil] at ih ⊢; omega
theorem wrap_u8 (x : Int) : IntKind.wrap .u8 x = x % 256 := by rfl
structure PS {α : Type} (E : Enc α) (N M t : Nat) (h0 h : Hp) (X : List (Nat × List Value)) (p : Option Addr) (n c : Nat) (l : List α) : Prop where
 tape : IsTape N h t
 nm : N <= M
 le : M <= h.size
 sl : ∃ T : Nat -> Prop,Sl h T E p n c l /\ (∀ y,T y -> M <= y) /\ ∀ x ∈ X,Bk h x.1 x.2 /\ ¬ T x.1 /\ x.1 ≠ t
 fr : Fr (fun y => M <= y \/ y = t) h0 h
section
variable {N M t : Nat} {h0 : Hp} {X : List (Nat × List Value)} {p : Option Addr} {n c : Nat} {α : Type} {E : Enc α} {l : List α} {w : World}
theorem IsTape.lt {h : Hp} (hT : IsTape N h t) : t < N := by
 obtain ⟨_,_,_,_,_,_,_,ht,_⟩ := hT
 exact ht
theorem PS.tlt {h : Hp} (s : PS E N M t h0 h X p n c l) : t < M := by have := s.tape.lt; have := s.nm; omega
theorem PS.next (s : PS E N M t h0 w.heap X p n c l) (k : Int) {Q : Int -> World -> Prop} (H : ∀ x w',0 <= x -> (1 <= k -> x < k) -> PS E N M t h0 w'.heap X p n c l -> Q x w') :
  Calls P F.Zf #[.pointer (some ⟨t,0,none⟩),.int .i64 k] w fun en w' => ∃ x : Int,en = .returned (.int .i64 x) /\ Q x w' := by
 refine (keep_Next_ok s.tape k).mono ?_; rintro _ w1 ⟨x,rfl,x0,x1,hT,hF⟩
 refine ⟨x,rfl,H x w1 x0 x1 ?_⟩
 have ht := s.tlt
 obtain ⟨T,hs,hT2,hX⟩ := s.sl
 exact ⟨hT,s.nm,Nat.le_trans s.le hF.le,⟨T,hs.fr hF (fun y _ hy e => by have := hT2 y hy; omega) (fun y _ hy => hy),hT2,fun x hx => ⟨(hX x hx).1.fr hF (hX x hx).2.2,(hX x hx).2⟩⟩,s.fr.trans' (hF.mono fun y _ e => .inr e)⟩
theorem PS.newB (s : PS E N M t h0 w.heap X p n c l) {cs : Array Value} {ty : TypeId} {k : Nat -> World -> Prop} (H : ∀ b w',PS E N M t h0 w'.heap ((b,cs.toList) :: X) p n c l -> k b w') : newB w cs ty k := by
 refine newB_i ?_; intro b w1 hb hB hN _
 refine H b w1 ?_
 obtain ⟨T,hs,hT2,hX⟩ := s.sl
 have hle := s.le; have ht := s.tlt
 refine ⟨s.tape.nw hN,s.nm,Nat.le_trans s.le hN.le,⟨fun y => T y /\ y < w.heap.size,hs.fr hN (fun _ _ _ h => h) (fun y hy h => ⟨h,hy⟩),fun y hy => hT2 y hy.1,fun x hx => ?_⟩,s.fr.trans' hN.fr⟩
 rcases List.mem_cons.1 hx with rfl | hx
 ·exact ⟨hB,fun h => by have := h.2; omega,by show b ≠ t; omega⟩
 ·exact ⟨(hX x hx).1.nw hN,fun h => (hX x hx).2.1 h.1,(hX x hx).2.2⟩
theorem PS.op {l : List Int} {L : List (Int × Int)} (s : PS eU8 N M t h0 w.heap X p n c (l ++ ins L)) (hn : n <= 1000) (o a : Int) (ho : 0 <= o /\ o < 256) {Q : Option Addr -> Nat -> Nat -> World -> Prop}
  (H : ∀ p' c' w' a',0 <= a' -> a' < 256 -> (0 <= a -> a < 256 -> a' = a) -> PS eU8 N M t h0 w'.heap X p' (n + 2) c' (l ++ ins (L ++ [(o,a')])) -> Q p' (n + 2) c' w') :
  Calls P F.Z16 #[.slice p n c,.int .i64 o,.int .i64 a] w fun en w' => ∃ (px : Option Addr) (nx cx : Nat),en = .returned (.slice px nx cx) /\ Q px nx cx w' := by
 have eo : IntKind.wrap .u8 o = o := by rw [wrap_u8]; omega
 have er := wrap_u8 a
 refine oZ16 ?_
 unfold vZ16
 refine newB_i ?_; intro b w1 hb hB hN _
 obtain ⟨T,hs,hT2,hX⟩ := s.sl
 have hle := s.le; have ht := s.tlt
 have hB' : Bk w1.heap b (recs eU8 [IntKind.wrap .u8 o,IntKind.wrap .u8 a]) := by rw [recs_u8]; exact hB
 have h2 := Sl.of_blk (ok := fun y => y = b) hB' rfl (n := 2) rfl (by omega)
 have h1 := hs.fr (ok' := fun y => T y /\ y < w.heap.size) hN (fun _ _ _ h => h) (fun y hy h => ⟨h,hy⟩)
 refine append_r ty_u8 h1 h2 (by omega) ?_; intro p' c' w2 hs2 hF2
 rw [eo] at hs2
 refine ⟨p',n + 2,c',rfl,H p' c' w2 (IntKind.wrap .u8 a) (by omega) (by omega) (fun _ _ => by omega) ?_⟩
 rw [ins_app,<- List.append_assoc]
 have hF2' : Fr (fun y => M <= y \/ y = t) w1.heap w2.heap := hF2.mono fun y _ h => .inl (hT2 y h.1)
 have hge : w.heap.size <= w1.heap.size := hN.le
 refine ⟨(s.tape.nw hN).fr hF2 fun y hy => by have := hT2 y hy.1; have := s.nm; omega,s.nm,by have := hF2.le; omega,⟨Old (fun y => T y /\ y < w.heap.size) w1.heap,hs2,fun y hy => ?_,fun x hx => ?_⟩,(s.fr.trans' hN.fr).trans' hF2'⟩
 ·rcases hy with hy | hy
  ·exact hT2 y hy.1
  ·omega
 ·obtain ⟨x1,x2,x3⟩ := hX x hx
  refine ⟨(x1.nw hN).fr hF2 fun h => x2 h.1,fun h => ?_,x3⟩
  rcases h with h | h
  ·exact x2 h.1
  ·have := x1.lt; omega
theorem PS.rd (s : PS E N M t h0 w.heap X p n c l) {b : Nat} {cs : List Value} (hx : (b,cs) ∈ X) (o : Nat) : w.cell? ⟨b,o,none⟩ = cs[o]? := by
 obtain ⟨T,hs,hT2,hX⟩ := s.sl
 exact (hX _ hx).1.cell o
theorem PS.pick {p0 : Nat} {vs : List Int} (s : PS E N M t h0 w.heap ((p0,vs.map (Value.int .i64)) :: X) p n c l) {x : Int} (hx : 0 <= x /\ x < vs.length) {Q : Int -> Prop} (H : ∀ v,vs[x.toNat]? = some v -> v ∈ vs -> Q v) :
  ∃ v : Int,w.cell? ⟨p0,0 + x.toNat * 1,none⟩ = some (.int .i64 v) /\ Q v := by
 obtain ⟨v,hv⟩ : ∃ v,vs[x.toNat]? = some v := ⟨_,getD_some (d := 0) (by omega)⟩
 refine ⟨v,?_,H v hv (List.mem_of_getElem? hv)⟩
 rw [s.rd List.mem_cons_self,List.getElem?_map,show 0 + x.toNat * 1 = x.toNat by omega,hv]; rfl
theorem PS.again {p0 : Nat} {vs : List Int} (s : PS E N M t h0 w.heap ((p0,vs.map (Value.int .i64)) :: X) p n c l) {x v : Int} (hv : vs[x.toNat]? = some v) : w.cell? ⟨p0,0 + x.toNat * 1,none⟩ = some (.int .i64 v) := by
 rw [s.rd List.mem_cons_self,List.getElem?_map,show 0 + x.toNat * 1 = x.toNat by omega,hv]; rfl
theorem PS.app {T el ty : TypeId} (tf : SlTy P T el E) {b n2 : Nat} {l2 : List α} (s : PS E N M t h0 w.heap ((b,recs E l2) :: X) p n c l) (h2 : l2.length = n2) (hn : n + n2 <= 100000) {Q : Option Addr -> Nat -> Nat -> World -> Prop}
  (H : ∀ p' c' w',PS E N M t h0 w'.heap X p' (n + n2) c' (l ++ l2) -> Q p' (n + n2) c' w') :
  ∃ (px : Option Addr) (nx cx : Nat),∃ w1,(Builtin.append_ #[T,T] ty #[.slice p n c,.slice (some ⟨b,0,none⟩) n2 n2]).run P w = .ok (.slice px nx cx) w1 /\ Aft w w1 /\ Q px nx cx w1 := by
 obtain ⟨T0,hs,hT2,hX⟩ := s.sl
 obtain ⟨hb1,hb2,hb3⟩ := hX _ List.mem_cons_self
 have h2' := Sl.of_blk (ok := fun y => y = b) (h := w.heap) (E := E) (b := b) (l := l2) hb1 rfl h2 (by omega)
 refine append_r tf hs h2' (by omega) ?_; intro p' c' w2 hs2 hF2
 refine H p' c' w2 ?_
 have hle := s.le; have ht := s.tlt
 have hF2' : Fr (fun y => M <= y \/ y = t) w.heap w2.heap := hF2.mono fun y _ h => .inl (hT2 y h)
 refine ⟨s.tape.fr hF2 fun y hy => by have := hT2 y hy; have := s.nm; omega,s.nm,by have := hF2.le; omega,⟨Old T0 w.heap,hs2,fun y hy => ?_,fun x hx => ?_⟩,s.fr.trans' hF2'⟩
 ·rcases hy with hy | hy
  ·exact hT2 y hy
  ·omega
 ·obtain ⟨x1,x2,x3⟩ := hX x (List.mem_cons_of_mem _ hx)
  refine ⟨x1.fr hF2 x2,fun h => ?_,x3⟩
  rcases h with h | h
  ·exact x2 h
  ·have := x1.lt; omega
theorem PS.base {h : Hp} (s : PS E N M t h0 h X p n c l) : PS E N M t h h X p n c l := ⟨s.tape,s.nm,s.le,s.sl,Fr.refl _ _⟩
theorem PS.start {h : Hp} (hT : IsTape N h t) (h1 : N <= M) (h2 : M <= h.size) : PS E N M t h h [] none 0 0 ([] : List α) :=
 ⟨hT,h1,h2,⟨fun _ => False,Sl.nil,fun _ h => h.elim,fun _ hx => by simp at hx⟩,Fr.refl _ _⟩
theorem PS.st {h h' : Hp} {b : Nat} (s : PS E N M t h0 h [] p n c l) (hF : Fr (· = b) h h') (hN : N <= b) (hM : b < M) : PS E N M t h' h' [] p n c l := by
 obtain ⟨T0,hs,hT2,hX⟩ := s.sl
 refine ⟨s.tape.fr hF fun y hy => by omega,s.nm,Nat.le_trans s.le hF.le,⟨T0,hs.fr hF (fun y _ hy e => by have := hT2 y hy; omega) (fun y _ hy => hy),hT2,fun _ hx => by simp at hx⟩,Fr.refl _ _⟩
theorem PS.less {b : Nat × List Value} {h : Hp} (s : PS E N M t h0 h (b :: X) p n c l) : PS E N M t h0 h X p n c l := by
 obtain ⟨T,hs,hT2,hX⟩ := s.sl
 exact ⟨s.tape,s.nm,s.le,⟨T,hs,hT2,fun x hx => hX x (List.mem_cons_of_mem _ hx)⟩,s.fr⟩
theorem PS.drew (s : PS E N M t h0 w.heap X p n c l) : PS E N M t h0 w.drew.heap X p n c l := s
end
def Iok (op arg : Int) : Prop := (op = 0 \/ op = 10) /\ arg < 2 \/ (op = 1 \/ op = 11) /\ arg < 62 \/ op = 2 /\ arg < 4 \/ (op = 12 \/ op = 13) /\ 4 <= arg /\ arg < 10 \/ op = 20 /\ 10 <= arg /\ arg < 12 \/ op = 18 /\ 12 <= arg /\ arg < 14 \/ op = 21 /\ arg < 24 \/ 3 <= op /\ op <= 9 \/ op = 14 \/ op = 19
def GL : List (Int × Int) -> Prop
 | [] => True
 | x :: r => (0 <= x.1 /\ x.1 < 256 /\ 0 <= x.2 /\ x.2 < 256) /\ (Iok x.1 x.2 \/ x.1 = 17 /\ x.2 = 1 /\ 2 <= r.length) /\ GL r
theorem GL.append : ∀ {L M : List (Int × Int)},GL L -> GL M -> GL (L ++ M)
 | [],_,_,h => h
 | x :: r,M,h,h' => ⟨h.1,h.2.1.imp id fun e => ⟨e.1,e.2.1,by show 2 <= (r ++ M).length; rw [List.length_append]; omega⟩,h.2.2.append h'⟩
def PieceTo (N M t : Nat) (h0 : Hp) (X : List (Nat × List Value)) (l : List Int) : Ending -> World -> Prop := fun en w' => ∃ p n c L,en = .returned (.slice p n c) /\ GL L /\ L.length <= 6 /\ PS eU8 N M t h0 w'.heap X p n c (l ++ ins L)
end
section
section
variable {N M t : Nat} {h0 : Hp} {X : List (Nat × List Value)} {p : Option Addr} {n c : Nat} {l : List Int} {w : World}
set_option maxHeartbeats 2000000 in
theorem keep_piece_ok (s : PS eU8 N M t h0 w.heap X p n c l) (hn : n <= 900) : Calls P F.Z15 #[.pointer (some ⟨t,0,none⟩),.slice p n c] w (PieceTo N M t h0 X l) := by
 refine oZ15 ?_
 unfold vZ15
 have s0 : PS eU8 N M t h0 w.heap X p n c (l ++ ins []) := by simpa [ins] using s
 clear s
 refine PS.next (by assumption) _ ?_; intro x w_x x_0 x_1 s_x; replace x_1 := x_1 (by omega)
 try clear s0
 simp only [join_eq,br_or]
 refine PS.next (by assumption) _ ?_; intro x3 w_x3 x3_0 x3_1 s_x3; replace x3_1 := x3_1 (by omega)
 try clear s_x
 refine br_of (fun h => ?_) (fun h => ?_) <;> simp only [Bool.or_eq_true,Bool.or_eq_false_iff,ZJ,ZK] at h
 ·refine PS.op (by assumption) (by omega) _ _ (by omega) ?_; intro p_1 c_1 w_1 a_1 a0_1 a1_1 a2_1 s_1; (first | (replace a2_1 := a2_1 (by omega) (by omega); try subst a2_1) | clear a2_1)
  try clear s_x3
  refine PS.op (by assumption) (by omega) _ _ (by omega) ?_; intro p_2 c_2 w_2 a_2 a0_2 a1_2 a2_2 s_2; (first | (replace a2_2 := a2_2 (by omega) (by omega); try subst a2_2) | clear a2_2)
  try clear s_1
  refine PS.op (by assumption) (by omega) _ _ (by omega) ?_; intro p_3 c_3 w_3 a_3 a0_3 a1_3 a2_3 s_3; (first | (replace a2_3 := a2_3 (by omega) (by omega); try subst a2_3) | clear a2_3)
  try clear s_2
  refine ⟨_,_,_,_,rfl,?_,?_,by assumption⟩ <;> simp [GL,Iok] <;> omega
 clear h
 refine br_of (fun h2 => ?_) (fun h2 => ?_) <;> simp only [ZJ,ZK,ZL,ZM,ZN,ZO,ZP,ZQ,ZR] at h2
 ·refine PS.op (by assumption) (by omega) _ _ (by omega) ?_; intro p_1 c_1 w_1 a_1 a0_1 a1_1 a2_1 s_1; (first | (replace a2_1 := a2_1 (by omega) (by omega); try subst a2_1) | clear a2_1)
  try clear s_x3
  refine PS.newB (by assumption) ?_; intro b_2 w_2 s_2
  try clear s_1
  refine PS.next (by assumption) _ ?_; intro x4 w_x4 x4_0 x4_1 s_x4; replace x4_1 := x4_1 (by omega)
  try clear s_2
  refine chk_of (by simp; omega) ?_
  refine PS.pick (vs := [4,8,9]) (by assumption) (by simp; omega) ?_; intro v_5 e_5 m_5
  simp only [List.mem_cons,List.not_mem_nil,or_false] at m_5
  refine PS.op (by assumption) (by omega) _ _ (by omega) ?_; intro p_6 c_6 w_6 a_6 a0_6 a1_6 a2_6 s_6; (first | (replace a2_6 := a2_6 (by omega) (by omega); try subst a2_6) | clear a2_6)
  try clear s_x4
  refine PS.op (by assumption) (by omega) _ _ (by omega) ?_; intro p_7 c_7 w_7 a_7 a0_7 a1_7 a2_7 s_7; (first | (replace a2_7 := a2_7 (by omega) (by omega); try subst a2_7) | clear a2_7)
  try clear s_6
  refine ⟨_,_,_,_,rfl,?_,?_,PS.less (by assumption)⟩ <;> simp [GL,Iok] <;> omega
 refine br_of (fun h3 => ?_) (fun h3 => ?_) <;> simp only [ZJ,ZK,ZL,ZM,ZN,ZO,ZP,ZQ,ZR] at h3
 ·refine PS.op (by assumption) (by omega) _ _ (by omega) ?_; intro p_1 c_1 w_1 a_1 a0_1 a1_1 a2_1 s_1; (first | (replace a2_1 := a2_1 (by omega) (by omega); try subst a2_1) | clear a2_1)
  try clear s_x3
  refine PS.op (by assumption) (by omega) _ _ (by omega) ?_; intro p_2 c_2 w_2 a_2 a0_2 a1_2 a2_2 s_2; (first | (replace a2_2 := a2_2 (by omega) (by omega); try subst a2_2) | clear a2_2)
  try clear s_1
  refine PS.next (by assumption) _ ?_; intro x4 w_x4 x4_0 x4_1 s_x4; replace x4_1 := x4_1 (by omega)
  try clear s_2
  rw [wrap_id (x := 5 + x4) (by omega) (by omega)]
  refine PS.op (by assumption) (by omega) _ _ (by omega) ?_; intro p_6 c_6 w_6 a_6 a0_6 a1_6 a2_6 s_6; (first | (replace a2_6 := a2_6 (by omega) (by omega); try subst a2_6) | clear a2_6)
  try clear s_x4
  refine PS.op (by assumption) (by omega) _ _ (by omega) ?_; intro p_7 c_7 w_7 a_7 a0_7 a1_7 a2_7 s_7; (first | (replace a2_7 := a2_7 (by omega) (by omega); try subst a2_7) | clear a2_7)
  try clear s_6
  refine PS.op (by assumption) (by omega) _ _ (by omega) ?_; intro p_8 c_8 w_8 a_8 a0_8 a1_8 a2_8 s_8; (first | (replace a2_8 := a2_8 (by omega) (by omega); try subst a2_8) | clear a2_8)
  try clear s_7
  refine ⟨_,_,_,_,rfl,?_,?_,by assumption⟩ <;> simp [GL,Iok] <;> omega
 refine br_of (fun h4 => ?_) (fun h4 => ?_) <;> simp only [ZJ,ZK,ZL,ZM,ZN,ZO,ZP,ZQ,ZR] at h4
 ·refine PS.next (by assumption) _ ?_; intro x7 w_x7 x7_0 x7_1 s_x7; replace x7_1 := x7_1 (by omega)
  try clear s_x3
  refine PS.op (by assumption) (by omega) _ _ (by omega) ?_; intro p_1 c_1 w_1 a_1 a0_1 a1_1 a2_1 s_1; (first | (replace a2_1 := a2_1 (by omega) (by omega); try subst a2_1) | clear a2_1)
  try clear s_x7
  refine PS.op (by assumption) (by omega) _ _ (by omega) ?_; intro p_2 c_2 w_2 a_2 a0_2 a1_2 a2_2 s_2; (first | (replace a2_2 := a2_2 (by omega) (by omega); try subst a2_2) | clear a2_2)
  try clear s_1
  refine PS.next (by assumption) _ ?_; intro x8 w_x8 x8_0 x8_1 s_x8; replace x8_1 := x8_1 (by omega)
  try clear s_2
  refine PS.op (by assumption) (by omega) _ _ (by omega) ?_; intro p_3 c_3 w_3 a_3 a0_3 a1_3 a2_3 s_3; (first | (replace a2_3 := a2_3 (by omega) (by omega); try subst a2_3) | clear a2_3)
  try clear s_x8
  refine PS.op (by assumption) (by omega) _ _ (by omega) ?_; intro p_4 c_4 w_4 a_4 a0_4 a1_4 a2_4 s_4; (first | (replace a2_4 := a2_4 (by omega) (by omega); try subst a2_4) | clear a2_4)
  try clear s_3
  refine PS.op (by assumption) (by omega) _ _ (by omega) ?_; intro p_5 c_5 w_5 a_5 a0_5 a1_5 a2_5 s_5; (first | (replace a2_5 := a2_5 (by omega) (by omega); try subst a2_5) | clear a2_5)
  try clear s_4
  refine ⟨_,_,_,_,rfl,?_,?_,by assumption⟩ <;> simp [GL,Iok] <;> omega
 refine br_of (fun h => ?_) (fun h => ?_) <;> simp only [Bool.or_eq_true,Bool.or_eq_false_iff,ZJ,ZK] at h
 ·refine PS.next (by assumption) _ ?_; intro x7 w_x7 x7_0 x7_1 s_x7; replace x7_1 := x7_1 (by omega)
  try clear s_x3
  rw [wrap_id (x := 10 + x7) (by omega) (by omega)]
  refine PS.op (by assumption) (by omega) _ _ (by omega) ?_; intro p_1 c_1 w_1 a_1 a0_1 a1_1 a2_1 s_1; (first | (replace a2_1 := a2_1 (by omega) (by omega); try subst a2_1) | clear a2_1)
  try clear s_x7
  refine PS.next (by assumption) _ ?_; intro x8 w_x8 x8_0 x8_1 s_x8; replace x8_1 := x8_1 (by omega)
  try clear s_1
  refine PS.op (by assumption) (by omega) _ _ (by omega) ?_; intro p_2 c_2 w_2 a_2 a0_2 a1_2 a2_2 s_2; (first | (replace a2_2 := a2_2 (by omega) (by omega); try subst a2_2) | clear a2_2)
  try clear s_x8
  refine PS.op (by assumption) (by omega) _ _ (by omega) ?_; intro p_3 c_3 w_3 a_3 a0_3 a1_3 a2_3 s_3; (first | (replace a2_3 := a2_3 (by omega) (by omega); try subst a2_3) | clear a2_3)
  try clear s_2
  refine ⟨_,_,_,_,rfl,?_,?_,by assumption⟩ <;> simp [GL,Iok] <;> omega
 clear h
 refine br_of (fun h => ?_) (fun h => ?_) <;> simp only [Bool.or_eq_true,Bool.or_eq_false_iff,ZJ,ZK] at h
 ·refine PS.op (by assumption) (by omega) _ _ (by omega) ?_; intro p_1 c_1 w_1 a_1 a0_1 a1_1 a2_1 s_1; (first | (replace a2_1 := a2_1 (by omega) (by omega); try subst a2_1) | clear a2_1)
  try clear s_x3
  refine PS.op (by assumption) (by omega) _ _ (by omega) ?_; intro p_2 c_2 w_2 a_2 a0_2 a1_2 a2_2 s_2; (first | (replace a2_2 := a2_2 (by omega) (by omega); try subst a2_2) | clear a2_2)
  try clear s_1
  refine PS.next (by assumption) _ ?_; intro x8 w_x8 x8_0 x8_1 s_x8; replace x8_1 := x8_1 (by omega)
  try clear s_2
  refine PS.op (by assumption) (by omega) _ _ (by omega) ?_; intro p_3 c_3 w_3 a_3 a0_3 a1_3 a2_3 s_3; (first | (replace a2_3 := a2_3 (by omega) (by omega); try subst a2_3) | clear a2_3)
  try clear s_x8
  refine PS.op (by assumption) (by omega) _ _ (by omega) ?_; intro p_4 c_4 w_4 a_4 a0_4 a1_4 a2_4 s_4; (first | (replace a2_4 := a2_4 (by omega) (by omega); try subst a2_4) | clear a2_4)
  try clear s_3
  refine ⟨_,_,_,_,rfl,?_,?_,by assumption⟩ <;> simp [GL,Iok] <;> omega
 clear h
 refine br_of (fun h => ?_) (fun h => ?_) <;> simp only [Bool.or_eq_true,Bool.or_eq_false_iff,ZJ,ZK] at h
 ·rw [wv_eq]
  have s_d := s_x3.drew
  clear s_x3
  refine ⟨?_,?_⟩
  ·refine PS.next (by assumption) _ ?_; intro x12 w_x12 x12_0 x12_1 s_x12; replace x12_1 := x12_1 (by omega)
   try clear s_d
   refine ⟨trivial,?_⟩
   refine ⟨?_,?_⟩
   ·refine PS.op (by assumption) (by omega) _ _ (by omega) ?_; intro p_1 c_1 w_1 a_1 a0_1 a1_1 a2_1 s_1; (first | (replace a2_1 := a2_1 (by omega) (by omega); try subst a2_1) | clear a2_1)
    try clear s_x12
    refine ⟨trivial,?_⟩
    refine ⟨?_,?_⟩
    ·refine PS.next (by assumption) _ ?_; intro x13 w_x13 x13_0 x13_1 s_x13; replace x13_1 := x13_1 (by omega)
     try clear s_1
     refine ⟨trivial,?_⟩
     refine ⟨?_,?_⟩
     ·refine PS.op (by assumption) (by omega) _ _ (by omega) ?_; intro p_2 c_2 w_2 a_2 a0_2 a1_2 a2_2 s_2; (first | (replace a2_2 := a2_2 (by omega) (by omega); try subst a2_2) | clear a2_2)
      try clear s_x13
      refine ⟨trivial,?_⟩
      refine ⟨?_,?_⟩
      ·refine PS.newB (by assumption) ?_; intro b_3 w_3 s_3
       try clear s_2
       refine ⟨trivial,?_⟩
       refine PS.next (by assumption) _ ?_; intro x14 w_x14 x14_0 x14_1 s_x14; replace x14_1 := x14_1 (by omega)
       try clear s_3
       refine ⟨trivial,?_⟩
       refine chk_of (by simp; omega) ?_
       refine PS.pick (vs := [7,0]) (by assumption) (by simp; omega) ?_; intro v_31 e_31 m_31
       simp only [List.mem_cons,List.not_mem_nil,or_false] at m_31
       refine PS.next (by assumption) _ ?_; intro x32 w_x32 x32_0 x32_1 s_x32; replace x32_1 := x32_1 (by omega)
       try clear s_x14
       refine ⟨⟨s_x32.again (vs := [7,0]) e_31,trivial⟩,?_⟩
       refine PS.op (by assumption) (by omega) _ _ (by omega) ?_; intro p_33 c_33 w_33 a_33 a0_33 a1_33 a2_33 s_33; (first | (replace a2_33 := a2_33 (by omega) (by omega); try subst a2_33) | clear a2_33)
       try clear s_x32
       refine ⟨trivial,?_⟩
       refine PS.op (by assumption) (by omega) _ _ (by omega) ?_; intro p_34 c_34 w_34 a_34 a0_34 a1_34 a2_34 s_34; (first | (replace a2_34 := a2_34 (by omega) (by omega); try subst a2_34) | clear a2_34)
       try clear s_33
       refine ⟨trivial,?_⟩
       refine PS.op (by assumption) (by omega) _ _ (by omega) ?_; intro p_35 c_35 w_35 a_35 a0_35 a1_35 a2_35 s_35; (first | (replace a2_35 := a2_35 (by omega) (by omega); try subst a2_35) | clear a2_35)
       try clear s_34
       refine ⟨trivial,?_⟩
       refine ⟨_,_,_,_,rfl,?_,?_,PS.less (by assumption)⟩ <;> simp [GL,Iok] <;> omega
      ·refine PS.next (by assumption) _ ?_; intro x14 w_x14 x14_0 x14_1 s_x14; replace x14_1 := x14_1 (by omega)
       try clear s_2
       refine ⟨trivial,?_⟩
       refine ⟨?_,?_⟩
       ·refine PS.newB (by assumption) ?_; intro b_3 w_3 s_3
        try clear s_x14
        refine ⟨trivial,?_⟩
        refine chk_of (by simp; omega) ?_
        refine PS.pick (vs := [7,0]) (by assumption) (by simp; omega) ?_; intro v_31 e_31 m_31
        simp only [List.mem_cons,List.not_mem_nil,or_false] at m_31
        refine PS.next (by assumption) _ ?_; intro x32 w_x32 x32_0 x32_1 s_x32; replace x32_1 := x32_1 (by omega)
        try clear s_3
        refine ⟨⟨s_x32.again (vs := [7,0]) e_31,trivial⟩,?_⟩
        refine PS.op (by assumption) (by omega) _ _ (by omega) ?_; intro p_33 c_33 w_33 a_33 a0_33 a1_33 a2_33 s_33; (first | (replace a2_33 := a2_33 (by omega) (by omega); try subst a2_33) | clear a2_33)
        try clear s_x32
        refine ⟨trivial,?_⟩
        refine PS.op (by assumption) (by omega) _ _ (by omega) ?_; intro p_34 c_34 w_34 a_34 a0_34 a1_34 a2_34 s_34; (first | (replace a2_34 := a2_34 (by omega) (by omega); try subst a2_34) | clear a2_34)
        try clear s_33
        refine ⟨trivial,?_⟩
        refine PS.op (by assumption) (by omega) _ _ (by omega) ?_; intro p_35 c_35 w_35 a_35 a0_35 a1_35 a2_35 s_35; (first | (replace a2_35 := a2_35 (by omega) (by omega); try subst a2_35) | clear a2_35)
        try clear s_34
        refine ⟨trivial,?_⟩
        refine ⟨_,_,_,_,rfl,?_,?_,PS.less (by assumption)⟩ <;> simp [GL,Iok] <;> omega
       ·refine PS.next (by assumption) _ ?_; intro x15 w_x15 x15_0 x15_1 s_x15; replace x15_1 := x15_1 (by omega)
        try clear s_x14
        refine ⟨trivial,?_⟩
        refine PS.newB (by assumption) ?_; intro b_3 w_3 s_3
        try clear s_x15
        refine ⟨trivial,?_⟩
        refine chk_of (by simp; omega) ?_
        refine PS.pick (vs := [7,0]) (by assumption) (by simp; omega) ?_; intro v_31 e_31 m_31
        simp only [List.mem_cons,List.not_mem_nil,or_false] at m_31
        refine PS.op (by assumption) (by omega) _ _ (by omega) ?_; intro p_33 c_33 w_33 a_33 a0_33 a1_33 a2_33 s_33; (first | (replace a2_33 := a2_33 (by omega) (by omega); try subst a2_33) | clear a2_33)
        try clear s_3
        refine ⟨trivial,?_⟩
        refine PS.op (by assumption) (by omega) _ _ (by omega) ?_; intro p_34 c_34 w_34 a_34 a0_34 a1_34 a2_34 s_34; (first | (replace a2_34 := a2_34 (by omega) (by omega); try subst a2_34) | clear a2_34)
        try clear s_33
        refine ⟨trivial,?_⟩
        refine PS.op (by assumption) (by omega) _ _ (by omega) ?_; intro p_35 c_35 w_35 a_35 a0_35 a1_35 a2_35 s_35; (first | (replace a2_35 := a2_35 (by omega) (by omega); try subst a2_35) | clear a2_35)
        try clear s_34
        refine ⟨trivial,?_⟩
        refine ⟨_,_,_,_,rfl,?_,?_,PS.less (by assumption)⟩ <;> simp [GL,Iok] <;> omega
     ·refine PS.newB (by assumption) ?_; intro b_3 w_3 s_3
      try clear s_x13
      refine ⟨trivial,?_⟩
      refine PS.op (by assumption) (by omega) _ _ (by omega) ?_; intro p_4 c_4 w_4 a_4 a0_4 a1_4 a2_4 s_4; (first | (replace a2_4 := a2_4 (by omega) (by omega); try subst a2_4) | clear a2_4)
      try clear s_3
      refine ⟨trivial,?_⟩
      refine PS.next (by assumption) _ ?_; intro x14 w_x14 x14_0 x14_1 s_x14; replace x14_1 := x14_1 (by omega)
      try clear s_4
      refine ⟨trivial,?_⟩
      refine chk_of (by simp; omega) ?_
      refine PS.pick (vs := [7,0]) (by assumption) (by simp; omega) ?_; intro v_31 e_31 m_31
      simp only [List.mem_cons,List.not_mem_nil,or_false] at m_31
      refine PS.next (by assumption) _ ?_; intro x32 w_x32 x32_0 x32_1 s_x32; replace x32_1 := x32_1 (by omega)
      try clear s_x14
      refine ⟨⟨s_x32.again (vs := [7,0]) e_31,trivial⟩,?_⟩
      refine PS.op (by assumption) (by omega) _ _ (by omega) ?_; intro p_33 c_33 w_33 a_33 a0_33 a1_33 a2_33 s_33; (first | (replace a2_33 := a2_33 (by omega) (by omega); try subst a2_33) | clear a2_33)
      try clear s_x32
      refine ⟨trivial,?_⟩
      refine PS.op (by assumption) (by omega) _ _ (by omega) ?_; intro p_34 c_34 w_34 a_34 a0_34 a1_34 a2_34 s_34; (first | (replace a2_34 := a2_34 (by omega) (by omega); try subst a2_34) | clear a2_34)
      try clear s_33
      refine ⟨trivial,?_⟩
      refine PS.op (by assumption) (by omega) _ _ (by omega) ?_; intro p_35 c_35 w_35 a_35 a0_35 a1_35 a2_35 s_35; (first | (replace a2_35 := a2_35 (by omega) (by omega); try subst a2_35) | clear a2_35)
      try clear s_34
      refine ⟨trivial,?_⟩
      refine ⟨_,_,_,_,rfl,?_,?_,PS.less (by assumption)⟩ <;> simp [GL,Iok] <;> omega
    ·refine PS.newB (by assumption) ?_; intro b_3 w_3 s_3
     try clear s_1
     refine ⟨trivial,?_⟩
     refine PS.next (by assumption) _ ?_; intro x13 w_x13 x13_0 x13_1 s_x13; replace x13_1 := x13_1 (by omega)
     try clear s_3
     refine ⟨trivial,?_⟩
     refine PS.op (by assumption) (by omega) _ _ (by omega) ?_; intro p_4 c_4 w_4 a_4 a0_4 a1_4 a2_4 s_4; (first | (replace a2_4 := a2_4 (by omega) (by omega); try subst a2_4) | clear a2_4)
     try clear s_x13
     refine ⟨trivial,?_⟩
     refine PS.next (by assumption) _ ?_; intro x14 w_x14 x14_0 x14_1 s_x14; replace x14_1 := x14_1 (by omega)
     try clear s_4
     refine ⟨trivial,?_⟩
     refine chk_of (by simp; omega) ?_
     refine PS.pick (vs := [7,0]) (by assumption) (by simp; omega) ?_; intro v_31 e_31 m_31
     simp only [List.mem_cons,List.not_mem_nil,or_false] at m_31
     refine PS.next (by assumption) _ ?_; intro x32 w_x32 x32_0 x32_1 s_x32; replace x32_1 := x32_1 (by omega)
     try clear s_x14
     refine ⟨⟨s_x32.again (vs := [7,0]) e_31,trivial⟩,?_⟩
     refine PS.op (by assumption) (by omega) _ _ (by omega) ?_; intro p_33 c_33 w_33 a_33 a0_33 a1_33 a2_33 s_33; (first | (replace a2_33 := a2_33 (by omega) (by omega); try subst a2_33) | clear a2_33)
     try clear s_x32
     refine ⟨trivial,?_⟩
     refine PS.op (by assumption) (by omega) _ _ (by omega) ?_; intro p_34 c_34 w_34 a_34 a0_34 a1_34 a2_34 s_34; (first | (replace a2_34 := a2_34 (by omega) (by omega); try subst a2_34) | clear a2_34)
     try clear s_33
     refine ⟨trivial,?_⟩
     refine PS.op (by assumption) (by omega) _ _ (by omega) ?_; intro p_35 c_35 w_35 a_35 a0_35 a1_35 a2_35 s_35; (first | (replace a2_35 := a2_35 (by omega) (by omega); try subst a2_35) | clear a2_35)
     try clear s_34
     refine ⟨trivial,?_⟩
     refine ⟨_,_,_,_,rfl,?_,?_,PS.less (by assumption)⟩ <;> simp [GL,Iok] <;> omega
   ·refine PS.newB (by assumption) ?_; intro b_3 w_3 s_3
    try clear s_x12
    refine ⟨trivial,?_⟩
    refine PS.op (by assumption) (by omega) _ _ (by omega) ?_; intro p_4 c_4 w_4 a_4 a0_4 a1_4 a2_4 s_4; (first | (replace a2_4 := a2_4 (by omega) (by omega); try subst a2_4) | clear a2_4)
    try clear s_3
    refine ⟨trivial,?_⟩
    refine PS.next (by assumption) _ ?_; intro x13 w_x13 x13_0 x13_1 s_x13; replace x13_1 := x13_1 (by omega)
    try clear s_4
    refine ⟨trivial,?_⟩
    refine PS.op (by assumption) (by omega) _ _ (by omega) ?_; intro p_5 c_5 w_5 a_5 a0_5 a1_5 a2_5 s_5; (first | (replace a2_5 := a2_5 (by omega) (by omega); try subst a2_5) | clear a2_5)
    try clear s_x13
    refine ⟨trivial,?_⟩
    refine PS.next (by assumption) _ ?_; intro x14 w_x14 x14_0 x14_1 s_x14; replace x14_1 := x14_1 (by omega)
    try clear s_5
    refine ⟨trivial,?_⟩
    refine chk_of (by simp; omega) ?_
    refine PS.pick (vs := [7,0]) (by assumption) (by simp; omega) ?_; intro v_31 e_31 m_31
    simp only [List.mem_cons,List.not_mem_nil,or_false] at m_31
    refine PS.next (by assumption) _ ?_; intro x32 w_x32 x32_0 x32_1 s_x32; replace x32_1 := x32_1 (by omega)
    try clear s_x14
    refine ⟨⟨s_x32.again (vs := [7,0]) e_31,trivial⟩,?_⟩
    refine PS.op (by assumption) (by omega) _ _ (by omega) ?_; intro p_33 c_33 w_33 a_33 a0_33 a1_33 a2_33 s_33; (first | (replace a2_33 := a2_33 (by omega) (by omega); try subst a2_33) | clear a2_33)
    try clear s_x32
    refine ⟨trivial,?_⟩
    refine PS.op (by assumption) (by omega) _ _ (by omega) ?_; intro p_34 c_34 w_34 a_34 a0_34 a1_34 a2_34 s_34; (first | (replace a2_34 := a2_34 (by omega) (by omega); try subst a2_34) | clear a2_34)
    try clear s_33
    refine ⟨trivial,?_⟩
    refine PS.op (by assumption) (by omega) _ _ (by omega) ?_; intro p_35 c_35 w_35 a_35 a0_35 a1_35 a2_35 s_35; (first | (replace a2_35 := a2_35 (by omega) (by omega); try subst a2_35) | clear a2_35)
    try clear s_34
    refine ⟨trivial,?_⟩
    refine ⟨_,_,_,_,rfl,?_,?_,PS.less (by assumption)⟩ <;> simp [GL,Iok] <;> omega
  ·refine PS.newB (by assumption) ?_; intro b_3 w_3 s_3
   try clear s_d
   refine ⟨trivial,?_⟩
   refine PS.next (by assumption) _ ?_; intro x12 w_x12 x12_0 x12_1 s_x12; replace x12_1 := x12_1 (by omega)
   try clear s_3
   refine ⟨trivial,?_⟩
   refine PS.op (by assumption) (by omega) _ _ (by omega) ?_; intro p_4 c_4 w_4 a_4 a0_4 a1_4 a2_4 s_4; (first | (replace a2_4 := a2_4 (by omega) (by omega); try subst a2_4) | clear a2_4)
   try clear s_x12
   refine ⟨trivial,?_⟩
   refine PS.next (by assumption) _ ?_; intro x13 w_x13 x13_0 x13_1 s_x13; replace x13_1 := x13_1 (by omega)
   try clear s_4
   refine ⟨trivial,?_⟩
   refine PS.op (by assumption) (by omega) _ _ (by omega) ?_; intro p_5 c_5 w_5 a_5 a0_5 a1_5 a2_5 s_5; (first | (replace a2_5 := a2_5 (by omega) (by omega); try subst a2_5) | clear a2_5)
   try clear s_x13
   refine ⟨trivial,?_⟩
   refine PS.next (by assumption) _ ?_; intro x14 w_x14 x14_0 x14_1 s_x14; replace x14_1 := x14_1 (by omega)
   try clear s_5
   refine ⟨trivial,?_⟩
   refine chk_of (by simp; omega) ?_
   refine PS.pick (vs := [7,0]) (by assumption) (by simp; omega) ?_; intro v_31 e_31 m_31
   simp only [List.mem_cons,List.not_mem_nil,or_false] at m_31
   refine PS.next (by assumption) _ ?_; intro x32 w_x32 x32_0 x32_1 s_x32; replace x32_1 := x32_1 (by omega)
   try clear s_x14
   refine ⟨⟨s_x32.again (vs := [7,0]) e_31,trivial⟩,?_⟩
   refine PS.op (by assumption) (by omega) _ _ (by omega) ?_; intro p_33 c_33 w_33 a_33 a0_33 a1_33 a2_33 s_33; (first | (replace a2_33 := a2_33 (by omega) (by omega); try subst a2_33) | clear a2_33)
   try clear s_x32
   refine ⟨trivial,?_⟩
   refine PS.op (by assumption) (by omega) _ _ (by omega) ?_; intro p_34 c_34 w_34 a_34 a0_34 a1_34 a2_34 s_34; (first | (replace a2_34 := a2_34 (by omega) (by omega); try subst a2_34) | clear a2_34)
   try clear s_33
   refine ⟨trivial,?_⟩
   refine PS.op (by assumption) (by omega) _ _ (by omega) ?_; intro p_35 c_35 w_35 a_35 a0_35 a1_35 a2_35 s_35; (first | (replace a2_35 := a2_35 (by omega) (by omega); try subst a2_35) | clear a2_35)
   try clear s_34
   refine ⟨trivial,?_⟩
   refine ⟨_,_,_,_,rfl,?_,?_,PS.less (by assumption)⟩ <;> simp [GL,Iok] <;> omega
 clear h
 refine br_of (fun h11 => ?_) (fun h11 => ?_) <;> simp only [ZJ,ZK,ZL,ZM,ZN,ZO,ZP,ZQ,ZR] at h11
 ·refine PS.next (by assumption) _ ?_; intro x7 w_x7 x7_0 x7_1 s_x7; replace x7_1 := x7_1 (by omega)
  try clear s_x3
  refine PS.op (by assumption) (by omega) _ _ (by omega) ?_; intro p_1 c_1 w_1 a_1 a0_1 a1_1 a2_1 s_1; (first | (replace a2_1 := a2_1 (by omega) (by omega); try subst a2_1) | clear a2_1)
  try clear s_x7
  refine PS.next (by assumption) _ ?_; intro x8 w_x8 x8_0 x8_1 s_x8; replace x8_1 := x8_1 (by omega)
  try clear s_1
  refine PS.op (by assumption) (by omega) _ _ (by omega) ?_; intro p_2 c_2 w_2 a_2 a0_2 a1_2 a2_2 s_2; (first | (replace a2_2 := a2_2 (by omega) (by omega); try subst a2_2) | clear a2_2)
  try clear s_x8
  refine PS.op (by assumption) (by omega) _ _ (by omega) ?_; intro p_3 c_3 w_3 a_3 a0_3 a1_3 a2_3 s_3; (first | (replace a2_3 := a2_3 (by omega) (by omega); try subst a2_3) | clear a2_3)
  try clear s_2
  refine PS.op (by assumption) (by omega) _ _ (by omega) ?_; intro p_4 c_4 w_4 a_4 a0_4 a1_4 a2_4 s_4; (first | (replace a2_4 := a2_4 (by omega) (by omega); try subst a2_4) | clear a2_4)
  try clear s_3
  refine ⟨_,_,_,_,rfl,?_,?_,by assumption⟩ <;> simp [GL,Iok] <;> omega
 refine br_of (fun h12 => ?_) (fun h12 => ?_) <;> simp only [ZJ,ZK,ZL,ZM,ZN,ZO,ZP,ZQ,ZR] at h12
 ·refine PS.op (by assumption) (by omega) _ _ (by omega) ?_; intro p_1 c_1 w_1 a_1 a0_1 a1_1 a2_1 s_1; (first | (replace a2_1 := a2_1 (by omega) (by omega); try subst a2_1) | clear a2_1)
  try clear s_x3
  refine PS.op (by assumption) (by omega) _ _ (by omega) ?_; intro p_2 c_2 w_2 a_2 a0_2 a1_2 a2_2 s_2; (first | (replace a2_2 := a2_2 (by omega) (by omega); try subst a2_2) | clear a2_2)
  try clear s_1
  refine PS.op (by assumption) (by omega) _ _ (by omega) ?_; intro p_3 c_3 w_3 a_3 a0_3 a1_3 a2_3 s_3; (first | (replace a2_3 := a2_3 (by omega) (by omega); try subst a2_3) | clear a2_3)
  try clear s_2
  refine ⟨_,_,_,_,rfl,?_,?_,by assumption⟩ <;> simp [GL,Iok] <;> omega
 refine br_of (fun h13 => ?_) (fun h13 => ?_) <;> simp only [ZJ,ZK,ZL,ZM,ZN,ZO,ZP,ZQ,ZR] at h13
 ·refine PS.op (by assumption) (by omega) _ _ (by omega) ?_; intro p_1 c_1 w_1 a_1 a0_1 a1_1 a2_1 s_1; (first | (replace a2_1 := a2_1 (by omega) (by omega); try subst a2_1) | clear a2_1)
  try clear s_x3
  refine PS.op (by assumption) (by omega) _ _ (by omega) ?_; intro p_2 c_2 w_2 a_2 a0_2 a1_2 a2_2 s_2; (first | (replace a2_2 := a2_2 (by omega) (by omega); try subst a2_2) | clear a2_2)
  try clear s_1
  refine PS.op (by assumption) (by omega) _ _ (by omega) ?_; intro p_3 c_3 w_3 a_3 a0_3 a1_3 a2_3 s_3; (first | (replace a2_3 := a2_3 (by omega) (by omega); try subst a2_3) | clear a2_3)
  try clear s_2
  refine PS.op (by assumption) (by omega) _ _ (by omega) ?_; intro p_4 c_4 w_4 a_4 a0_4 a1_4 a2_4 s_4; (first | (replace a2_4 := a2_4 (by omega) (by omega); try subst a2_4) | clear a2_4)
  try clear s_3
  refine ⟨_,_,_,_,rfl,?_,?_,by assumption⟩ <;> simp [GL,Iok] <;> omega
 refine br_of (fun h14 => ?_) (fun h14 => ?_) <;> simp only [ZJ,ZK,ZL,ZM,ZN,ZO,ZP,ZQ,ZR] at h14
 ·refine PS.op (by assumption) (by omega) _ _ (by omega) ?_; intro p_1 c_1 w_1 a_1 a0_1 a1_1 a2_1 s_1; (first | (replace a2_1 := a2_1 (by omega) (by omega); try subst a2_1) | clear a2_1)
  try clear s_x3
  refine PS.next (by assumption) _ ?_; intro x8 w_x8 x8_0 x8_1 s_x8; replace x8_1 := x8_1 (by omega)
  try clear s_1
  refine PS.op (by assumption) (by omega) _ _ (by omega) ?_; intro p_2 c_2 w_2 a_2 a0_2 a1_2 a2_2 s_2; (first | (replace a2_2 := a2_2 (by omega) (by omega); try subst a2_2) | clear a2_2)
  try clear s_x8
  refine PS.op (by assumption) (by omega) _ _ (by omega) ?_; intro p_3 c_3 w_3 a_3 a0_3 a1_3 a2_3 s_3; (first | (replace a2_3 := a2_3 (by omega) (by omega); try subst a2_3) | clear a2_3)
  try clear s_2
  refine PS.op (by assumption) (by omega) _ _ (by omega) ?_; intro p_4 c_4 w_4 a_4 a0_4 a1_4 a2_4 s_4; (first | (replace a2_4 := a2_4 (by omega) (by omega); try subst a2_4) | clear a2_4)
  try clear s_3
  refine ⟨_,_,_,_,rfl,?_,?_,by assumption⟩ <;> simp [GL,Iok] <;> omega
 refine br_of (fun h15 => ?_) (fun h15 => ?_) <;> simp only [ZJ,ZK,ZL,ZM,ZN,ZO,ZP,ZQ,ZR] at h15
 ·refine PS.next (by assumption) _ ?_; intro x7 w_x7 x7_0 x7_1 s_x7; replace x7_1 := x7_1 (by omega)
  try clear s_x3
  refine PS.op (by assumption) (by omega) _ _ (by omega) ?_; intro p_1 c_1 w_1 a_1 a0_1 a1_1 a2_1 s_1; (first | (replace a2_1 := a2_1 (by omega) (by omega); try subst a2_1) | clear a2_1)
  try clear s_x7
  refine PS.next (by assumption) _ ?_; intro x8 w_x8 x8_0 x8_1 s_x8; replace x8_1 := x8_1 (by omega)
  try clear s_1
  rw [wrap_id (x := 15 + x8) (by omega) (by omega)]
  refine PS.op (by assumption) (by omega) _ _ (by omega) ?_; intro p_2 c_2 w_2 a_2 a0_2 a1_2 a2_2 s_2; (first | (replace a2_2 := a2_2 (by omega) (by omega); try subst a2_2) | clear a2_2)
  try clear s_x8
  refine PS.op (by assumption) (by omega) _ _ (by omega) ?_; intro p_3 c_3 w_3 a_3 a0_3 a1_3 a2_3 s_3; (first | (replace a2_3 := a2_3 (by omega) (by omega); try subst a2_3) | clear a2_3)
  try clear s_2
  refine ⟨_,_,_,_,rfl,?_,?_,by assumption⟩ <;> simp [GL,Iok] <;> omega
 refine br_of (fun h16 => ?_) (fun h16 => ?_) <;> simp only [ZJ,ZK,ZL,ZM,ZN,ZO,ZP,ZQ,ZR] at h16
 ·refine PS.newB (by assumption) ?_; intro b_1 w_1 s_1
  try clear s_x3
  refine PS.next (by assumption) _ ?_; intro x8 w_x8 x8_0 x8_1 s_x8; replace x8_1 := x8_1 (by omega)
  try clear s_1
  refine chk_of (by simp; omega) ?_
  refine PS.pick (vs := [14,21,23]) (by assumption) (by simp; omega) ?_; intro v_2 e_2 m_2
  simp only [List.mem_cons,List.not_mem_nil,or_false] at m_2
  refine PS.op (by assumption) (by omega) _ _ (by omega) ?_; intro p_3 c_3 w_3 a_3 a0_3 a1_3 a2_3 s_3; (first | (replace a2_3 := a2_3 (by omega) (by omega); try subst a2_3) | clear a2_3)
  try clear s_x8
  refine PS.op (by assumption) (by omega) _ _ (by omega) ?_; intro p_4 c_4 w_4 a_4 a0_4 a1_4 a2_4 s_4; (first | (replace a2_4 := a2_4 (by omega) (by omega); try subst a2_4) | clear a2_4)
  try clear s_3
  refine ⟨_,_,_,_,rfl,?_,?_,PS.less (by assumption)⟩ <;> simp [GL,Iok] <;> omega
 refine br_of (fun h17 => ?_) (fun h17 => ?_) <;> simp only [ZJ,ZK,ZL,ZM,ZN,ZO,ZP,ZQ,ZR] at h17
 ·refine PS.next (by assumption) _ ?_; intro x7 w_x7 x7_0 x7_1 s_x7; replace x7_1 := x7_1 (by omega)
  try clear s_x3
  rw [wrap_id (x := 5 + x7) (by omega) (by omega)]
  refine PS.op (by assumption) (by omega) _ _ (by omega) ?_; intro p_1 c_1 w_1 a_1 a0_1 a1_1 a2_1 s_1; (first | (replace a2_1 := a2_1 (by omega) (by omega); try subst a2_1) | clear a2_1)
  try clear s_x7
  refine PS.op (by assumption) (by omega) _ _ (by omega) ?_; intro p_2 c_2 w_2 a_2 a0_2 a1_2 a2_2 s_2; (first | (replace a2_2 := a2_2 (by omega) (by omega); try subst a2_2) | clear a2_2)
  try clear s_1
  refine PS.op (by assumption) (by omega) _ _ (by omega) ?_; intro p_3 c_3 w_3 a_3 a0_3 a1_3 a2_3 s_3; (first | (replace a2_3 := a2_3 (by omega) (by omega); try subst a2_3) | clear a2_3)
  try clear s_2
  refine PS.op (by assumption) (by omega) _ _ (by omega) ?_; intro p_4 c_4 w_4 a_4 a0_4 a1_4 a2_4 s_4; (first | (replace a2_4 := a2_4 (by omega) (by omega); try subst a2_4) | clear a2_4)
  try clear s_3
  refine ⟨_,_,_,_,rfl,?_,?_,by assumption⟩ <;> simp [GL,Iok] <;> omega
 refine br_of (fun h18 => ?_) (fun h18 => ?_) <;> simp only [ZJ,ZK,ZL,ZM,ZN,ZO,ZP,ZQ,ZR] at h18
 ·refine PS.op (by assumption) (by omega) _ _ (by omega) ?_; intro p_1 c_1 w_1 a_1 a0_1 a1_1 a2_1 s_1; (first | (replace a2_1 := a2_1 (by omega) (by omega); try subst a2_1) | clear a2_1)
  try clear s_x3
  refine PS.op (by assumption) (by omega) _ _ (by omega) ?_; intro p_2 c_2 w_2 a_2 a0_2 a1_2 a2_2 s_2; (first | (replace a2_2 := a2_2 (by omega) (by omega); try subst a2_2) | clear a2_2)
  try clear s_1
  refine PS.next (by assumption) _ ?_; intro x8 w_x8 x8_0 x8_1 s_x8; replace x8_1 := x8_1 (by omega)
  try clear s_2
  refine PS.op (by assumption) (by omega) _ _ (by omega) ?_; intro p_3 c_3 w_3 a_3 a0_3 a1_3 a2_3 s_3; (first | (replace a2_3 := a2_3 (by omega) (by omega); try subst a2_3) | clear a2_3)
  try clear s_x8
  refine PS.op (by assumption) (by omega) _ _ (by omega) ?_; intro p_4 c_4 w_4 a_4 a0_4 a1_4 a2_4 s_4; (first | (replace a2_4 := a2_4 (by omega) (by omega); try subst a2_4) | clear a2_4)
  try clear s_3
  refine PS.op (by assumption) (by omega) _ _ (by omega) ?_; intro p_5 c_5 w_5 a_5 a0_5 a1_5 a2_5 s_5; (first | (replace a2_5 := a2_5 (by omega) (by omega); try subst a2_5) | clear a2_5)
  try clear s_4
  refine ⟨_,_,_,_,rfl,?_,?_,by assumption⟩ <;> simp [GL,Iok] <;> omega
 refine br_of (fun h19 => ?_) (fun h19 => ?_) <;> simp only [ZJ,ZK,ZL,ZM,ZN,ZO,ZP,ZQ,ZR] at h19
 ·refine PS.op (by assumption) (by omega) _ _ (by omega) ?_; intro p_1 c_1 w_1 a_1 a0_1 a1_1 a2_1 s_1; (first | (replace a2_1 := a2_1 (by omega) (by omega); try subst a2_1) | clear a2_1)
  try clear s_x3
  refine PS.op (by assumption) (by omega) _ _ (by omega) ?_; intro p_2 c_2 w_2 a_2 a0_2 a1_2 a2_2 s_2; (first | (replace a2_2 := a2_2 (by omega) (by omega); try subst a2_2) | clear a2_2)
  try clear s_1
  refine PS.newB (by assumption) ?_; intro b_3 w_3 s_3
  try clear s_2
  refine PS.next (by assumption) _ ?_; intro x8 w_x8 x8_0 x8_1 s_x8; replace x8_1 := x8_1 (by omega)
  try clear s_3
  refine chk_of (by simp; omega) ?_
  refine PS.pick (vs := [20,5]) (by assumption) (by simp; omega) ?_; intro v_4 e_4 m_4
  simp only [List.mem_cons,List.not_mem_nil,or_false] at m_4
  refine PS.op (by assumption) (by omega) _ _ (by omega) ?_; intro p_5 c_5 w_5 a_5 a0_5 a1_5 a2_5 s_5; (first | (replace a2_5 := a2_5 (by omega) (by omega); try subst a2_5) | clear a2_5)
  try clear s_x8
  refine PS.op (by assumption) (by omega) _ _ (by omega) ?_; intro p_6 c_6 w_6 a_6 a0_6 a1_6 a2_6 s_6; (first | (replace a2_6 := a2_6 (by omega) (by omega); try subst a2_6) | clear a2_6)
  try clear s_5
  refine ⟨_,_,_,_,rfl,?_,?_,PS.less (by assumption)⟩ <;> simp [GL,Iok] <;> omega
 refine br_of (fun h20 => ?_) (fun h20 => ?_) <;> simp only [ZJ,ZK,ZL,ZM,ZN,ZO,ZP,ZQ,ZR] at h20
 ·refine PS.next (by assumption) _ ?_; intro x7 w_x7 x7_0 x7_1 s_x7; replace x7_1 := x7_1 (by omega)
  try clear s_x3
  refine PS.op (by assumption) (by omega) _ _ (by omega) ?_; intro p_1 c_1 w_1 a_1 a0_1 a1_1 a2_1 s_1; (first | (replace a2_1 := a2_1 (by omega) (by omega); try subst a2_1) | clear a2_1)
  try clear s_x7
  refine PS.next (by assumption) _ ?_; intro x8 w_x8 x8_0 x8_1 s_x8; replace x8_1 := x8_1 (by omega)
  try clear s_1
  refine PS.op (by assumption) (by omega) _ _ (by omega) ?_; intro p_2 c_2 w_2 a_2 a0_2 a1_2 a2_2 s_2; (first | (replace a2_2 := a2_2 (by omega) (by omega); try subst a2_2) | clear a2_2)
  try clear s_x8
  refine PS.op (by assumption) (by omega) _ _ (by omega) ?_; intro p_3 c_3 w_3 a_3 a0_3 a1_3 a2_3 s_3; (first | (replace a2_3 := a2_3 (by omega) (by omega); try subst a2_3) | clear a2_3)
  try clear s_2
  refine ⟨_,_,_,_,rfl,?_,?_,by assumption⟩ <;> simp [GL,Iok] <;> omega
 refine PS.next (by assumption) _ ?_; intro x7 w_x7 x7_0 x7_1 s_x7; replace x7_1 := x7_1 (by omega)
 try clear s_x3
 refine PS.op (by assumption) (by omega) _ _ (by omega) ?_; intro p_1 c_1 w_1 a_1 a0_1 a1_1 a2_1 s_1; (first | (replace a2_1 := a2_1 (by omega) (by omega); try subst a2_1) | clear a2_1)
 try clear s_x7
 refine PS.next (by assumption) _ ?_; intro x8 w_x8 x8_0 x8_1 s_x8; replace x8_1 := x8_1 (by omega)
 try clear s_1
 refine PS.op (by assumption) (by omega) _ _ (by omega) ?_; intro p_2 c_2 w_2 a_2 a0_2 a1_2 a2_2 s_2; (first | (replace a2_2 := a2_2 (by omega) (by omega); try subst a2_2) | clear a2_2)
 try clear s_x8
 refine ⟨_,_,_,_,rfl,?_,?_,by assumption⟩ <;> simp [GL,Iok] <;> omega
end
end
section
def keepNames : List ByteArray := [⟨#[103,111]⟩,⟨#[100,111,58]⟩,⟨#[43]⟩,⟨#[97,116,58,112,117,116,58]⟩,⟨#[120]⟩,⟨#[121,57]⟩]
theorem keep_Names_ok (w : World) : Calls P F.Ze #[] w fun en w' => ∃ b,en = .returned (.slice (some ⟨b,0,none⟩) 6 6) /\ w.heap.size <= b /\ Bk w'.heap b (recs eStr keepNames) /\ Nw w.heap w'.heap := by
 refine oZe ?_
 unfold vZe
 refine newB_i ?_; intro b w1 b_eq hB hN w1_sz; try simp only [drew_heap',dr_heap] at b_eq hN
 exact ⟨b,rfl,by omega,hB,hN⟩
theorem keep_args_ok (w : World) {s : Int} (hs : 0 <= s /\ s < 6) : Calls P F.Zh #[.int .i64 s] w (Mk (.int .i64 ([0,1,1,2,0,0].getD s.toNat 0)) w) := by
 refine oZh ?_
 unfold vZh
 refine newB_i ?_; intro b w1 b_eq hB hN w1_sz; try simp only [drew_heap',dr_heap] at b_eq hN
 refine chk_of (by simp; omega) ⟨_,?_,rfl,hN⟩
 rw [hB.cell,Nat.zero_add,Nat.mul_one]
 obtain ⟨k,rfl⟩ := Int.eq_ofNat_of_zero_le hs.1
 have : k = 0 \/ k = 1 \/ k = 2 \/ k = 3 \/ k = 4 \/ k = 5 := by omega
 rcases this with rfl | rfl | rfl | rfl | rfl | rfl <;> rfl
def LitAt (classes : Int) (i : Nat) (v : TVal) : Prop := i < 4 /\ v.kind = 3 /\ -1073741824 <= v.n /\ v.n <= 1073741823 \/ 4 <= i /\ i < 10 /\ v.kind = 5 /\ v.n = (i : Int) - 4 \/ 10 <= i /\ i < 12 /\ v.kind = 6 /\ 2 <= v.n /\ v.n < classes \/ 12 <= i /\ i < 14 /\ v.kind = 7 /\ v.n = (i : Int) - 5
def LitsAt (classes : Int) (l : List TVal) : Prop := ∀ (i : Nat) (v : TVal),l[i]? = some v -> LitAt classes i v
theorem LitsAt.snoc {classes : Int} {l : List TVal} {v : TVal} (h : LitsAt classes l) (hv : LitAt classes l.length v) : LitsAt classes (l ++ [v]) := by
 intro i x hx
 by_cases hi : i < l.length
 ·rw [List.getElem?_append_left hi] at hx; exact h i x hx
 ·rw [List.getElem?_append_right (by omega)] at hx
  by_cases e : i = l.length
  ·subst e; simp at hx; subst hx; exact hv
  ·rw [List.getElem?_eq_none (by simp; omega)] at hx; cases hx
theorem PS.len {α : Type} {E : Enc α} {N M t : Nat} {h0 h : Hp} {X : List (Nat × List Value)} {p : Option Addr} {n c : Nat} {l : List α} (s : PS E N M t h0 h X p n c l) : l.length = n := by
 obtain ⟨T,hs,_⟩ := s.sl
 exact hs.len
section
variable {N t : Nat} {w : World}
def LitsTo (N t : Nat) (classes : Int) (w : World) : Ending -> World -> Prop := fun en w' => ∃ p c L,en = .returned (.slice p 14 c) /\ LitsAt classes L /\ PS eVal N w.heap.size t w.heap w'.heap [] p 14 c L
theorem keep_lits_ok (hT : IsTape N w.heap t) (hN : N <= w.heap.size) {classes : Int} (hc : 3 <= classes /\ classes <= 12) : Calls P F.Z14 #[.pointer (some ⟨t,0,none⟩),.int .i64 classes] w (LitsTo N t classes w) := by
 refine oZ14 ?_
 unfold vZ14
 refine ⟨fun t1 w' => ∃ l,PS eVal N w.heap.size t w.heap w'.heap [] t1.1.1 t1.1.2.1 t1.1.2.2 l /\ t1.2 = (l.length : Int) /\ l.length <= 4 /\ LitsAt classes l,fun t1 _ => 4 - t1.2.toNat,⟨[],PS.start hT hN (Nat.le_refl _),rfl,by simp,fun i v h => by simp at h⟩,?_⟩
 rintro ⟨⟨q,m,d⟩,k⟩ w1 ⟨l,s,hk,hl,hL⟩
 simp only at s hk ⊢
 have hlen := s.len
 refine br_of (fun h1 => ?_) (fun h1 => ?_) <;> simp only [ZJ,ZK,ZL,ZM,ZN,ZO,ZP,ZQ,ZR] at h1
 ·refine s.newB ?_; intro b w2 s2
  refine s2.next _ ?_; intro x w3 x0 x1 s3
  replace x1 := x1 (by omega)
  refine chk_of (by simp; omega) ?_
  refine PS.pick (vs := [0,7,1073741823,-1073741824,100000]) s3 (by simp; omega) ?_; intro v e mem
  simp only [List.mem_cons,List.not_mem_nil,or_false] at mem
  refine s3.newB ?_; intro b1 w4 s4
  refine PS.app (n2 := 1) (l2 := [⟨3,v⟩]) ty_val s4 rfl (by omega) ?_; intro p' c' w5 s5
  refine ⟨⟨l ++ [⟨3,v⟩],s5.less,?_,by simp; omega,hL.snoc (.inl ⟨by omega,rfl,by simp only; omega,by simp only; omega⟩)⟩,?_⟩
  ·simp only [List.length_append,List.length_cons,List.length_nil]; rw [wrap_id (by omega) (by omega)]; omega
  ·rw [wrap_id (by omega) (by omega)]; omega
 ·refine (keep_Names_ok w1).mono ?_; rintro _ w2 ⟨b,rfl,hb,hB,hN2⟩
  refine ⟨_,_,_,rfl,?_⟩
  have h4 : l.length = 4 := by omega
  have s2 : PS eVal N w.heap.size t w.heap w2.heap [] q m d l := by
   obtain ⟨T0,hs,hT2,hX⟩ := s.sl
   exact ⟨s.tape.nw hN2,s.nm,Nat.le_trans s.le hN2.le,⟨T0,hs.nw hN2,hT2,fun _ hx => by simp at hx⟩,s.fr.trans' hN2.fr⟩
  refine ⟨fun t1 w' => ∃ l,PS eVal N w.heap.size t w.heap w'.heap [] t1.1.1 t1.1.2.1 t1.1.2.2 l /\ t1.2 + 4 = (l.length : Int) /\ 4 <= l.length /\ l.length <= 10 /\ LitsAt classes l,fun t1 _ => 6 - t1.2.toNat,⟨l,s2,by simp only; omega,by omega,by omega,hL⟩,?_⟩
  clear s hB hN2 hk hl hL hlen h1 h4 s2
  rintro ⟨⟨q,m,d⟩,k⟩ w1 ⟨l,s,hk,hl0,hl,hL⟩
  simp only at s hk ⊢
  have hlen := s.len
  refine br_of (fun h1 => ?_) (fun h1 => ?_) <;> simp only [ZJ,ZK,ZL,ZM,ZN,ZO,ZP,ZQ,ZR] at h1
  ·refine s.newB ?_; intro b1 w4 s4
   refine PS.app (n2 := 1) (l2 := [⟨5,k⟩]) ty_val s4 rfl (by omega) ?_; intro p' c' w5 s5
   refine ⟨⟨l ++ [⟨5,k⟩],s5,?_,by simp; omega,by simp; omega,hL.snoc (.inr (.inl ⟨by omega,by omega,rfl,by simp only; omega⟩))⟩,?_⟩
   ·simp only [List.length_append,List.length_cons,List.length_nil]; rw [wrap_id (by omega) (by omega)]; omega
   ·rw [wrap_id (by omega) (by omega)]; omega
  ·refine ⟨fun t1 w' => ∃ l,PS eVal N w.heap.size t w.heap w'.heap [] t1.1.1 t1.1.2.1 t1.1.2.2 l /\ t1.2 + 10 = (l.length : Int) /\ 10 <= l.length /\ l.length <= 12 /\ LitsAt classes l,fun t1 _ => 2 - t1.2.toNat,⟨l,s,by simp only; omega,by omega,by omega,hL⟩,?_⟩
   clear s hk hl hL hlen h1 hl0
   rintro ⟨⟨q,m,d⟩,k⟩ w1 ⟨l,s,hk,hl0,hl,hL⟩
   simp only at s hk ⊢
   have hlen := s.len
   refine br_of (fun h1 => ?_) (fun h1 => ?_) <;> simp only [ZJ,ZK,ZL,ZM,ZN,ZO,ZP,ZQ,ZR] at h1
   ·refine s.next _ ?_; intro x w3 x0 x1 s3
    rw [wrap_id (x := classes - 2) (by omega) (by omega)] at x1
    replace x1 := x1 (by omega)
    rw [wrap_id (x := 2 + x) (by omega) (by omega)]
    refine s3.newB ?_; intro b1 w4 s4
    refine PS.app (n2 := 1) (l2 := [⟨6,2 + x⟩]) ty_val s4 rfl (by omega) ?_; intro p' c' w5 s5
    refine ⟨⟨l ++ [⟨6,2 + x⟩],s5,?_,by simp; omega,by simp; omega,hL.snoc (.inr (.inr (.inl ⟨by omega,by omega,rfl,by simp only; omega,by simp only; omega⟩)))⟩,?_⟩
    ·simp only [List.length_append,List.length_cons,List.length_nil]; rw [wrap_id (by omega) (by omega)]; omega
    ·rw [wrap_id (by omega) (by omega)]; omega
   ·refine s.newB ?_; intro b1 w4 s4
    refine PS.app (n2 := 2) (l2 := [⟨7,7⟩,⟨7,8⟩]) ty_val s4 rfl (by omega) ?_; intro p' c' w5 s5
    have h12 : l.length = 12 := by omega
    have hm : m = 12 := by omega
    subst hm
    refine ⟨p',c',_,rfl,?_,s5⟩
    have := (hL.snoc (v := ⟨7,7⟩) (.inr (.inr (.inr ⟨by omega,by omega,rfl,by simp only; omega⟩)))).snoc (v := ⟨7,8⟩) (.inr (.inr (.inr ⟨by simp; omega,by simp; omega,rfl,by simp; omega⟩)))
    simpa using this
end
end
section
structure TMok (classes args : Int) (m : TMethod) : Prop where
 args : m.args = args
 temps : m.temps = 2
 lits : m.lits.length = 14 /\ LitsAt classes m.lits
 code : ∃ L : List (Int × Int),m.code = ins L /\ GL L /\ L.length <= 34 /\ ∃ L0 x,L = L0 ++ [x] /\ (x.1 = 14 \/ x.1 = 19)
def MethTo (N t : Nat) (classes args : Int) (w : World) : Ending -> World -> Prop := fun en w' => ∃ (r : CMethod) (m : TMethod),en = .returned (.agg #[.int .i64 r.args,.int .i64 r.temps,.slice r.lits.p r.lits.n r.lits.c,.slice r.code.p r.code.n r.code.c]) /\ IsMethod w'.heap (fun y => w.heap.size <= y) r m /\ TMok classes args m /\ IsTape N w'.heap t /\ Fr (· = t) w.heap w'.heap
structure MS (M t n0 b b1 : Nat) (TL : Nat -> Prop) (pl : Option Addr) (cl : Nat) (Ls : List TVal) (h0 h : Hp) (cs : List Value) : Prop where
 bb1 : Bk h b1 cs
 bb : Bk h b [.int .i64 0,.int .i64 0,.slice none 0 0,.slice none 0 0]
 li : Sl h TL eVal pl 14 cl Ls
 fr : Fr (fun y => n0 <= y \/ y = t) h0 h
 r : n0 <= b /\ b < b1 /\ b1 < M /\ t < n0
 tl : ∀ y,TL y -> n0 <= y /\ y < b1 /\ y ≠ b
theorem join_of {β : Type} {j : β -> World -> Prop} {k : (β -> World -> Prop) -> Prop} (Pj : β -> World -> Prop) (h1 : ∀ u w,Pj u w -> j u w) (h2 : ∀ j' : β -> World -> Prop,(∀ u w,Pj u w -> j' u w) -> k j') : join j k := h2 j h1
section
variable {M t n0 b b1 : Nat} {TL : Nat -> Prop} {pl : Option Addr} {cl : Nat} {Ls : List TVal} {h0 h h' : Hp} {cs cs' : List Value}
theorem MS.go (ms : MS M t n0 b b1 TL pl cl Ls h0 h cs) (hF : Fr (fun y => M <= y \/ y = t) h h') : MS M t n0 b b1 TL pl cl Ls h0 h' cs := by
 have := ms.r
 exact ⟨ms.bb1.fr hF (by omega),ms.bb.fr hF (by omega),ms.li.fr hF (fun y _ hy e => by have := ms.tl y hy; omega) (fun y _ hy => hy),ms.fr.trans' (hF.mono fun y _ e => by omega),ms.r,ms.tl⟩
theorem MS.st (ms : MS M t n0 b b1 TL pl cl Ls h0 h cs) (hB : Bk h' b1 cs') (hF : Fr (· = b1) h h') : MS M t n0 b b1 TL pl cl Ls h0 h' cs' := by
 have := ms.r
 exact ⟨hB,ms.bb.fr hF (by omega),ms.li.fr hF (fun y _ hy e => by have := ms.tl y hy; omega) (fun y _ hy => hy),ms.fr.trans' (hF.mono fun y _ e => by omega),ms.r,ms.tl⟩
end
theorem GL.lenB {L : List (Int × Int)} (h : GL L) : Bytes (ins L) := by
 induction L with
 | nil => intro x hx; simp [ins] at hx
 | cons a r ih =>
  intro x hx
  have hr := ih h.2.2
  have e : ins (a :: r) = a.1 :: a.2 :: ins r := rfl
  rw [e] at hx
  rcases List.mem_cons.1 hx with rfl | hx
  ·exact ⟨h.1.1,h.1.2.1⟩
  ·rcases List.mem_cons.1 hx with rfl | hx
   ·exact ⟨h.1.2.2.1,h.1.2.2.2⟩
   ·exact hr x hx
section
variable {N t : Nat} {w : World}
def MInv (N t : Nat) (w0 : World) (b b1 : Nat) (TL : Nat -> Prop) (pl : Option Addr) (cl : Nat) (Ls : List TVal) (args : Int) (most : Nat) (w' : World) : Prop := ∃ p n c L,L.length <= most /\ GL L /\ PS eU8 N (b1 + 1) t w'.heap w'.heap [] p n c ([] ++ ins L) /\ MS (b1 + 1) t w0.heap.size b b1 TL pl cl Ls w0.heap w'.heap [.int .i64 args,.int .i64 2,.slice pl 14 cl,.slice p n c]
set_option maxHeartbeats 2000000 in
theorem keep_method_ok (hT : IsTape N w.heap t) (hN : N <= w.heap.size) {classes args : Int} (hc : 3 <= classes /\ classes <= 12) (block : Bool) : Calls P F.Zg #[.pointer (some ⟨t,0,none⟩),.int .i64 args,.int .i64 classes,.bool block] w (MethTo N t classes args w) := by
 refine oZg ?_
 unfold vZg
 refine newB_i ?_; intro b w1 b_eq hB hN1 w1_sz; try simp only [drew_heap',dr_heap] at b_eq hN1
 have hle1 := hN1.le
 refine (keep_lits_ok (hT.nw hN1) (by omega) hc).mono ?_; rintro _ w2 ⟨pl,cl,Ls,rfl,hLs,sl⟩
 refine ⟨_,_,_,rfl,?_⟩
 have hB2 := hB.fr sl.fr (fun e => by have := sl.tape.lt; have := hB.lt; omega)
 have htl := sl.tape.lt
 have hle2 := sl.fr.le
 have hlt2 := hB2.lt
 refine newB_i ?_; intro b1 w3 b1_eq hB1 hN3 w3_sz; try simp only [drew_heap',dr_heap] at b1_eq hN3
 refine stores_i hB1 (by simp [sets_length]) ?_; intro w4 hB4 hF4 w4_sz; try simp only [drew_heap',dr_heap] at w4_sz hF4
 simp only [sets,ZH,ZI] at hB4
 have hTa := (sl.tape.nw hN3).fr hF4 (fun y hy => by omega)
 obtain ⟨T,hT1,hT2,_⟩ := sl.sl
 obtain ⟨TL,hTL⟩ : ∃ TL : Nat -> Prop,TL = fun y => T y /\ y < w2.heap.size := ⟨_,rfl⟩
 have ms4 : MS (b1 + 1) t w.heap.size b b1 TL pl cl Ls w.heap w4.heap [.int .i64 args,.int .i64 2,.slice pl 14 cl,.slice none 0 0] := by
  refine ⟨hB4,(hB2.nw hN3).fr hF4 (by omega),?_,?_,⟨by omega,by omega,by omega,by omega⟩,?_⟩
  ·rw [hTL]
   exact (hT1.fr hN3 (ok' := fun y => T y /\ y < w2.heap.size) (fun _ _ _ h => h) (fun y hy h => ⟨h,hy⟩)).fr hF4 (fun y _ hy e => by have := hy.2; omega) (fun y _ h => h)
  ·exact (((hN1.fr (S := fun y => w.heap.size <= y \/ y = t)).trans' (sl.fr.mono fun y _ e => by omega)).trans' hN3.fr).trans' (hF4.mono fun y _ e => by omega)
  ·rintro y hy
   rw [hTL] at hy
   have := hT2 y hy.1; have := hy.2
   exact ⟨by omega,by omega,by omega⟩
 have s4 : PS eU8 N (b1 + 1) t w4.heap w4.heap [] none 0 0 ([] ++ ins []) := PS.start hTa (by omega) (by rw [w4_sz]; omega)
 clear hTL
 clear hB hB2 hB1 hN3 hT1 hT2 hB4 hF4 hTa w3_sz w4_sz
 have hrr := ms4.r
 clear sl
 refine PS.next s4 _ ?_; intro x w5 x0 x1 s5; replace x1 := x1 (by omega)
 have ms5 := ms4.go s5.fr
 replace s5 := s5.base
 rw [wrap_id (x := 1 + x) (by omega) (by omega)]
 refine ⟨fun t1 w' => ∃ p n c L,0 <= t1 /\ (L.length : Int) + 6 * t1 <= 30 /\ GL L /\ PS eU8 N (b1 + 1) t w'.heap w'.heap [] p n c ([] ++ ins L) /\ MS (b1 + 1) t w.heap.size b b1 TL pl cl Ls w.heap w'.heap [.int .i64 args,.int .i64 2,.slice pl 14 cl,.slice p n c],fun t1 _ => t1.toNat,⟨none,0,0,[],by omega,by simp only [List.length_nil]; omega,trivial,s5,ms5⟩,?_⟩
 clear s4 ms4 s5 ms5 x0 x1 hle1 hle2 hlt2
 rintro t1 w5 ⟨p,n,c,L,ht1,hL,hgl,s,ms⟩
 have hlen := s.len
 rw [List.nil_append,ins_len] at hlen
 refine br_of (fun h1 => ?_) (fun h1 => ?_) <;> simp only [ZJ,ZK,ZQ] at h1
 ·refine ⟨p,n,c,by rw [ms.bb1.cell]; rfl,?_⟩
  refine (keep_piece_ok s (by omega)).mono ?_; rintro _ w6 ⟨p',n',c',L',rfl,hgl',hl',s6⟩
  refine ⟨_,_,_,rfl,?_⟩
  have ms6 := ms.go s6.fr
  have hb6 := ms6.bb1
  refine stores_i hb6 (by simp [sets_length]) ?_; intro w7 hB7 hF7 w7_sz; try simp only [drew_heap',dr_heap] at w7_sz hF7
  simp only [sets,ZH,ZI] at hB7
  have ms7 := ms6.st hB7 hF7
  have s7 := s6.st hF7 (by omega) (by omega)
  rw [wrap_id (by omega) (by omega)]
  refine ⟨⟨p',n',c',L ++ L',by omega,by rw [List.length_append]; omega,hgl.append hgl',?_,ms7⟩,by dsimp only; omega⟩
  rw [ins_app,<- List.append_assoc]; exact s7
 ·refine join_of (fun _ w' => MInv N t w b b1 TL pl cl Ls args 32 w') ?_ ?_
  ·clear ms s hlen hgl hL ht1 h1 L p n c
   rintro _ w8 ⟨p,n,c,L,hL,hgl,s,ms⟩
   have hlen := s.len
   rw [List.nil_append,ins_len] at hlen
   rw [wv_eq]
   replace s : PS eU8 N (b1 + 1) t w8.drew.heap w8.drew.heap [] p n c ([] ++ ins L) := s
   replace ms : MS (b1 + 1) t w.heap.size b b1 TL pl cl Ls w.heap w8.drew.heap [.int .i64 args,.int .i64 2,.slice pl 14 cl,.slice p n c] := ms
   generalize w8.drew = w9 at *
   refine ⟨p,n,c,by rw [ms.bb1.cell]; rfl,?_⟩
   refine ⟨?_,?_⟩
   ·refine s.newB ?_; intro b2 w10 s10
    have ms10 := ms.go s10.fr
    refine ⟨⟨by rw [ms10.bb1.cell]; rfl,trivial⟩,?_⟩
    refine s10.next _ ?_; intro x1 w11 x1_0 x1_1 s11; replace x1_1 := x1_1 (by omega)
    have ms11 := ms.go s11.fr
    refine ⟨⟨by rw [ms11.bb1.cell]; rfl,trivial⟩,?_⟩
    refine chk_of (by simp; omega) ?_
    refine PS.pick (vs := [7,3,4,0]) s11 (by simp; omega) ?_; intro v_k e_k m_k
    simp only [List.mem_cons,List.not_mem_nil,or_false] at m_k
    refine s11.next _ ?_; intro x3 w12 x3_0 x3_1 s12; replace x3_1 := x3_1 (by omega)
    have ms12 := ms.go s12.fr
    refine ⟨⟨s12.again (vs := [7,3,4,0]) e_k,by rw [ms12.bb1.cell]; rfl,trivial⟩,?_⟩
    refine PS.op s12 (by omega) _ _ (by omega) ?_; intro p_13 c_13 w_13 a_13 a0_13 a1_13 a2_13 s_13; (first | (replace a2_13 := a2_13 (by omega) (by omega); try subst a2_13) | clear a2_13)
    refine ⟨trivial,?_⟩
    have ms_q := MS.go ms s_13.fr
    have hb_q := ms_q.bb1
    refine stores_i hb_q (by simp [sets_length]) ?_; intro w_r hB_r hF_r w_r_sz; try simp only [drew_heap',dr_heap] at w_r_sz hF_r
    simp only [sets,ZH,ZI] at hB_r
    have ms_r := ms_q.st hB_r hF_r
    have s_r := PS.st s_13.less hF_r (by omega) (by omega)
    refine ⟨trivial,?_⟩
    have hg1 := hgl.append (M := [(v_k,a_13)]) (by simp [GL,Iok]; omega)
    refine join_of (fun v w' => (v = 14 \/ v = 19) /\ MInv N t w b b1 TL pl cl Ls args 33 w') ?_ ?_
    ·rintro v w8 ⟨hv,p,n,c,L,hL,hgl,s,ms⟩
     have hlen := s.len
     rw [List.nil_append,ins_len] at hlen
     refine ⟨p,n,c,by rw [ms.bb1.cell]; rfl,?_⟩
     refine PS.op s (by omega) _ _ (by omega) ?_; intro p_z c_z w_z a_z a0_z a1_z a2_z s_z; replace a2_z := a2_z (by omega) (by omega); subst a2_z
     have ms_z := ms.go s_z.fr
     have hz1 := ms_z.bb1
     refine stores_i hz1 (by simp [sets_length]) ?_; intro w_y hB_y hF_y w_y_sz; try simp only [drew_heap',dr_heap] at w_y_sz hF_y
     simp only [sets,ZH,ZI] at hB_y
     have ms_y := ms_z.st hB_y hF_y
     refine ⟨args,2,pl,14,cl,p_z,_,c_z,hB_y.holds,?_⟩
     have hb_y := ms_y.bb
     refine stores_i hb_y (by simp [sets_length]) ?_; intro w_x hB_x hF_x w_x_sz; try simp only [drew_heap',dr_heap] at w_x_sz hF_x
     simp only [sets,ZH,ZI] at hB_x
     refine ⟨args,2,pl,14,cl,p_z,_,c_z,hB_x.holds,?_⟩
     have hr := ms.r
     have s_y := s_z.st hF_y (by omega) (by omega)
     have s_x := s_y.st hF_x (by omega) (by omega)
     obtain ⟨T,hT1,hT2,_⟩ := s_x.sl
     have hgl2 := hgl.append (M := [(v,0)]) (by rcases hv with rfl | rfl <;> simp [GL,Iok])
     refine ⟨⟨args,2,⟨pl,14,cl⟩,⟨p_z,_,c_z⟩⟩,⟨args,2,Ls,ins (L ++ [(v,0)])⟩,rfl,⟨rfl,rfl,ms_y.li.fr hF_x (fun y _ hy e => by have := ms.tl y hy; omega) (fun y _ hy => (ms.tl y hy).1),hT1.mono fun y _ hy => by have := hT2 y hy; omega,hgl2.lenB⟩,⟨rfl,rfl,⟨ms_y.li.len,hLs⟩,_,rfl,hgl2,?_,L,(v,0),rfl,hv⟩,s_x.tape,?_⟩
     ·simp only [List.length_append,List.length_cons,List.length_nil]; omega
     ·exact (ms_y.fr.trans' (hF_x.mono fun y _ e => by omega)).mono fun y hy e => by omega
    ·intro J hJ
     refine br_of (fun _ => ?_) (fun _ => ?_)
     ·refine PS.next s_r _ ?_; intro y w7 _ _ s7
      have ms7 := MS.go ms_r s7.fr
      refine br_of (fun _ => ?_) (fun _ => ?_)
      ·exact hJ _ _ ⟨.inr rfl,_,_,_,_,(by simp;omega),hg1,s7.base,ms7⟩
      ·exact hJ _ _ ⟨.inl rfl,_,_,_,_,(by simp;omega),hg1,s7.base,ms7⟩
     ·exact hJ _ _ ⟨.inl rfl,_,_,_,_,(by simp;omega),hg1,s_r,ms_r⟩
   ·refine s.next _ ?_; intro x1 w11 x1_0 x1_1 s11; replace x1_1 := x1_1 (by omega)
    have ms11 := ms.go s11.fr
    replace s11 := s11.base
    refine ⟨⟨by rw [ms11.bb1.cell]; rfl,trivial⟩,?_⟩
    clear ms s
    refine ⟨?_,?_⟩
    ·refine s11.newB ?_; intro b2 w10 s10
     have ms10 := ms11.go s10.fr
     refine ⟨⟨by rw [ms10.bb1.cell]; rfl,trivial⟩,?_⟩
     refine chk_of (by simp; omega) ?_
     refine PS.pick (vs := [7,3,4,0]) s10 (by simp; omega) ?_; intro v_k e_k m_k
     simp only [List.mem_cons,List.not_mem_nil,or_false] at m_k
     refine s10.next _ ?_; intro x3 w12 x3_0 x3_1 s12; replace x3_1 := x3_1 (by omega)
     have ms12 := ms11.go s12.fr
     refine ⟨⟨s12.again (vs := [7,3,4,0]) e_k,by rw [ms12.bb1.cell]; rfl,trivial⟩,?_⟩
     refine PS.op s12 (by omega) _ _ (by omega) ?_; intro p_13 c_13 w_13 a_13 a0_13 a1_13 a2_13 s_13; (first | (replace a2_13 := a2_13 (by omega) (by omega); try subst a2_13) | clear a2_13)
     refine ⟨trivial,?_⟩
     have ms_q := MS.go ms11 s_13.fr
     have hb_q := ms_q.bb1
     refine stores_i hb_q (by simp [sets_length]) ?_; intro w_r hB_r hF_r w_r_sz; try simp only [drew_heap',dr_heap] at w_r_sz hF_r
     simp only [sets,ZH,ZI] at hB_r
     have ms_r := ms_q.st hB_r hF_r
     have s_r := PS.st s_13.less hF_r (by omega) (by omega)
     refine ⟨trivial,?_⟩
     have hg1 := hgl.append (M := [(v_k,a_13)]) (by simp [GL,Iok]; omega)
     refine join_of (fun v w' => (v = 14 \/ v = 19) /\ MInv N t w b b1 TL pl cl Ls args 33 w') ?_ ?_
     ·rintro v w8 ⟨hv,p,n,c,L,hL,hgl,s,ms⟩
      have hlen := s.len
      rw [List.nil_append,ins_len] at hlen
      refine ⟨p,n,c,by rw [ms.bb1.cell]; rfl,?_⟩
      refine PS.op s (by omega) _ _ (by omega) ?_; intro p_z c_z w_z a_z a0_z a1_z a2_z s_z; replace a2_z := a2_z (by omega) (by omega); subst a2_z
      have ms_z := ms.go s_z.fr
      have hz1 := ms_z.bb1
      refine stores_i hz1 (by simp [sets_length]) ?_; intro w_y hB_y hF_y w_y_sz; try simp only [drew_heap',dr_heap] at w_y_sz hF_y
      simp only [sets,ZH,ZI] at hB_y
      have ms_y := ms_z.st hB_y hF_y
      refine ⟨args,2,pl,14,cl,p_z,_,c_z,hB_y.holds,?_⟩
      have hb_y := ms_y.bb
      refine stores_i hb_y (by simp [sets_length]) ?_; intro w_x hB_x hF_x w_x_sz; try simp only [drew_heap',dr_heap] at w_x_sz hF_x
      simp only [sets,ZH,ZI] at hB_x
      refine ⟨args,2,pl,14,cl,p_z,_,c_z,hB_x.holds,?_⟩
      have hr := ms.r
      have s_y := s_z.st hF_y (by omega) (by omega)
      have s_x := s_y.st hF_x (by omega) (by omega)
      obtain ⟨T,hT1,hT2,_⟩ := s_x.sl
      have hgl2 := hgl.append (M := [(v,0)]) (by rcases hv with rfl | rfl <;> simp [GL,Iok])
      refine ⟨⟨args,2,⟨pl,14,cl⟩,⟨p_z,_,c_z⟩⟩,⟨args,2,Ls,ins (L ++ [(v,0)])⟩,rfl,⟨rfl,rfl,ms_y.li.fr hF_x (fun y _ hy e => by have := ms.tl y hy; omega) (fun y _ hy => (ms.tl y hy).1),hT1.mono fun y _ hy => by have := hT2 y hy; omega,hgl2.lenB⟩,⟨rfl,rfl,⟨ms_y.li.len,hLs⟩,_,rfl,hgl2,?_,L,(v,0),rfl,hv⟩,s_x.tape,?_⟩
      ·simp only [List.length_append,List.length_cons,List.length_nil]; omega
      ·exact (ms_y.fr.trans' (hF_x.mono fun y _ e => by omega)).mono fun y hy e => by omega
     ·intro J hJ
      refine br_of (fun _ => ?_) (fun _ => ?_)
      ·refine PS.next s_r _ ?_; intro y w7 _ _ s7
       have ms7 := MS.go ms_r s7.fr
       refine br_of (fun _ => ?_) (fun _ => ?_)
       ·exact hJ _ _ ⟨.inr rfl,_,_,_,_,(by simp;omega),hg1,s7.base,ms7⟩
       ·exact hJ _ _ ⟨.inl rfl,_,_,_,_,(by simp;omega),hg1,s7.base,ms7⟩
      ·exact hJ _ _ ⟨.inl rfl,_,_,_,_,(by simp;omega),hg1,s_r,ms_r⟩
    ·refine s11.next _ ?_; intro x3 w12 x3_0 x3_1 s12; replace x3_1 := x3_1 (by omega)
     have ms12 := ms11.go s12.fr
     refine ⟨⟨by rw [ms12.bb1.cell]; rfl,trivial⟩,?_⟩
     refine s12.newB ?_; intro b2 w10 s10
     have ms10 := ms11.go s10.fr
     refine ⟨⟨by rw [ms10.bb1.cell]; rfl,trivial⟩,?_⟩
     refine chk_of (by simp; omega) ?_
     refine PS.pick (vs := [7,3,4,0]) s10 (by simp; omega) ?_; intro v_k e_k m_k
     simp only [List.mem_cons,List.not_mem_nil,or_false] at m_k
     refine PS.op s10 (by omega) _ _ (by omega) ?_; intro p_13 c_13 w_13 a_13 a0_13 a1_13 a2_13 s_13; (first | (replace a2_13 := a2_13 (by omega) (by omega); try subst a2_13) | clear a2_13)
     refine ⟨trivial,?_⟩
     have ms_q := MS.go ms11 s_13.fr
     have hb_q := ms_q.bb1
     refine stores_i hb_q (by simp [sets_length]) ?_; intro w_r hB_r hF_r w_r_sz; try simp only [drew_heap',dr_heap] at w_r_sz hF_r
     simp only [sets,ZH,ZI] at hB_r
     have ms_r := ms_q.st hB_r hF_r
     have s_r := PS.st s_13.less hF_r (by omega) (by omega)
     refine ⟨trivial,?_⟩
     have hg1 := hgl.append (M := [(v_k,a_13)]) (by simp [GL,Iok]; omega)
     refine join_of (fun v w' => (v = 14 \/ v = 19) /\ MInv N t w b b1 TL pl cl Ls args 33 w') ?_ ?_
     ·rintro v w8 ⟨hv,p,n,c,L,hL,hgl,s,ms⟩
      have hlen := s.len
      rw [List.nil_append,ins_len] at hlen
      refine ⟨p,n,c,by rw [ms.bb1.cell]; rfl,?_⟩
      refine PS.op s (by omega) _ _ (by omega) ?_; intro p_z c_z w_z a_z a0_z a1_z a2_z s_z; replace a2_z := a2_z (by omega) (by omega); subst a2_z
      have ms_z := ms.go s_z.fr
      have hz1 := ms_z.bb1
      refine stores_i hz1 (by simp [sets_length]) ?_; intro w_y hB_y hF_y w_y_sz; try simp only [drew_heap',dr_heap] at w_y_sz hF_y
      simp only [sets,ZH,ZI] at hB_y
      have ms_y := ms_z.st hB_y hF_y
      refine ⟨args,2,pl,14,cl,p_z,_,c_z,hB_y.holds,?_⟩
      have hb_y := ms_y.bb
      refine stores_i hb_y (by simp [sets_length]) ?_; intro w_x hB_x hF_x w_x_sz; try simp only [drew_heap',dr_heap] at w_x_sz hF_x
      simp only [sets,ZH,ZI] at hB_x
      refine ⟨args,2,pl,14,cl,p_z,_,c_z,hB_x.holds,?_⟩
      have hr := ms.r
      have s_y := s_z.st hF_y (by omega) (by omega)
      have s_x := s_y.st hF_x (by omega) (by omega)
      obtain ⟨T,hT1,hT2,_⟩ := s_x.sl
      have hgl2 := hgl.append (M := [(v,0)]) (by rcases hv with rfl | rfl <;> simp [GL,Iok])
      refine ⟨⟨args,2,⟨pl,14,cl⟩,⟨p_z,_,c_z⟩⟩,⟨args,2,Ls,ins (L ++ [(v,0)])⟩,rfl,⟨rfl,rfl,ms_y.li.fr hF_x (fun y _ hy e => by have := ms.tl y hy; omega) (fun y _ hy => (ms.tl y hy).1),hT1.mono fun y _ hy => by have := hT2 y hy; omega,hgl2.lenB⟩,⟨rfl,rfl,⟨ms_y.li.len,hLs⟩,_,rfl,hgl2,?_,L,(v,0),rfl,hv⟩,s_x.tape,?_⟩
      ·simp only [List.length_append,List.length_cons,List.length_nil]; omega
      ·exact (ms_y.fr.trans' (hF_x.mono fun y _ e => by omega)).mono fun y hy e => by omega
     ·intro J hJ
      refine br_of (fun _ => ?_) (fun _ => ?_)
      ·refine PS.next s_r _ ?_; intro y w7 _ _ s7
       have ms7 := MS.go ms_r s7.fr
       refine br_of (fun _ => ?_) (fun _ => ?_)
       ·exact hJ _ _ ⟨.inr rfl,_,_,_,_,(by simp;omega),hg1,s7.base,ms7⟩
       ·exact hJ _ _ ⟨.inl rfl,_,_,_,_,(by simp;omega),hg1,s7.base,ms7⟩
      ·exact hJ _ _ ⟨.inl rfl,_,_,_,_,(by simp;omega),hg1,s_r,ms_r⟩
  ·intro J hJ
   refine PS.next s _ ?_; intro x w6 x0 x1 s6; replace x1 := x1 (by omega)
   replace ms := ms.go s6.fr
   replace s := s6.base
   clear s6
   refine br_of (fun _ => ?_) (fun _ => ?_)
   ·refine ⟨p,n,c,by rw [ms.bb1.cell]; rfl,?_⟩
    refine PS.op s (by omega) _ _ (by omega) ?_; intro p_11 c_11 w_11 a_11 a0_11 a1_11 a2_11 s_11; (first | (replace a2_11 := a2_11 (by omega) (by omega); try subst a2_11) | clear a2_11)
    refine PS.op s_11 (by omega) _ _ (by omega) ?_; intro p_12 c_12 w_12 a_12 a0_12 a1_12 a2_12 s_12; (first | (replace a2_12 := a2_12 (by omega) (by omega); try subst a2_12) | clear a2_12)
    have ms_q := MS.go ms s_12.fr
    have hb_q := ms_q.bb1
    refine stores_i hb_q (by simp [sets_length]) ?_; intro w_r hB_r hF_r w_r_sz; try simp only [drew_heap',dr_heap] at w_r_sz hF_r
    simp only [sets,ZH,ZI] at hB_r
    have ms_r := ms_q.st hB_r hF_r
    have s_r := PS.st s_12 hF_r (by omega) (by omega)
    refine hJ _ _ ⟨_,_,_,L ++ [(3,0)] ++ [(13,4)],by simp; omega,(hgl.append (by simp [GL,Iok])).append (by simp [GL,Iok]),s_r,ms_r⟩
   ·exact hJ _ _ ⟨p,n,c,L,by omega,hgl,s,ms⟩
end
end
section
variable {w : World} {R : Ending -> World -> Prop}
def vZk  (w : World) (R : Value -> World -> Prop) : Prop :=
 newB w #[.int .i64 0,.int .i64 0,.int .i64 0,.int .i64 0,.int .i64 0,.int .u32 0,.slice none 0 0,.slice none 0 0,.int .i64 0,.int .i64 0,.int .i64 0,.int .i64 0,.int .i64 0,.int .u32 0,.slice none 0 0,.slice none 0 0,.int .i64 0,.int .i64 0,.int .i64 0,.int .i64 0,.int .i64 0,.int .u32 0,.slice none 0 0,.slice none 0 0,.int .i64 0,.int .i64 0,.int .i64 0,.int .i64 0,.int .i64 0,.int .u32 0,.slice none 0 0,.slice none 0 0,.int .i64 0,.int .i64 0,.int .i64 0,.int .i64 0,.int .i64 0,.int .u32 0,.slice none 0 0,.slice none 0 0,.int .i64 0,.int .i64 0,.int .i64 0,.int .i64 0,.int .i64 0,.int .u32 0,.slice none 0 0,.slice none 0 0,.int .i64 0,.int .i64 0,.int .i64 0,.int .i64 0,.int .i64 0,.int .u32 0,.slice none 0 0,.slice none 0 0,.int .i64 0,.int .i64 0,.int .i64 0,.int .i64 0,.int .i64 0,.int .u32 0,.slice none 0 0,.slice none 0 0,.int .i64 0,.int .i64 0,.int .i64 0,.int .i64 0,.int .i64 0,.int .u32 0,.slice none 0 0,.slice none 0 0,.int .i64 0,.int .i64 0,.int .i64 0,.int .i64 0,.int .i64 0,.int .u32 0,.slice none 0 0,.slice none 0 0,.int .i64 0,.int .i64 0,.int .i64 0,.int .i64 0,.int .i64 0,.int .u32 0,.slice none 0 0,.slice none 0 0,.int .i64 0,.int .i64 0,.int .i64 0,.int .i64 0,.int .i64 0,.int .u32 0,.slice none 0 0,.slice none 0 0,.int .i64 0,.int .i64 0,.int .i64 0,.int .i64 0,.int .i64 0,.int .u32 0,.slice none 0 0,.slice none 0 0,.int .i64 0,.int .i64 0,.int .i64 0,.int .i64 0,.int .i64 0,.int .u32 0,.slice none 0 0,.slice none 0 0,.int .i64 0,.int .i64 0,.int .i64 0,.int .i64 0,.int .i64 0,.int .u32 0,.slice none 0 0,.slice none 0 0,.int .i64 0,.int .i64 0,.int .i64 0,.int .i64 0,.int .i64 0,.int .u32 0,.slice none 0 0,.slice none 0 0,.int .i64 0,.int .i64 0,.int .i64 0,.int .i64 0,.int .i64 0,.int .u32 0,.slice none 0 0,.slice none 0 0,.int .i64 0,.int .i64 0,.int .i64 0,.int .i64 0,.int .i64 0,.int .u32 0,.slice none 0 0,.slice none 0 0,.int .i64 0,.int .i64 0,.int .i64 0,.int .i64 0,.int .i64 0,.int .u32 0,.slice none 0 0,.slice none 0 0,.int .i64 0,.int .i64 0,.int .i64 0,.int .i64 0,.int .i64 0,.int .u32 0,.slice none 0 0,.slice none 0 0,.int .i64 0,.int .i64 0,.int .i64 0,.int .i64 0,.int .i64 0,.int .u32 0,.slice none 0 0,.slice none 0 0,.int .i64 0,.int .i64 0,.int .i64 0,.int .i64 0,.int .i64 0,.int .u32 0,.slice none 0 0,.slice none 0 0,.int .i64 0,.int .i64 0,.int .i64 0,.int .i64 0,.int .i64 0,.int .u32 0,.slice none 0 0,.slice none 0 0,.int .i64 0,.int .i64 0,.int .i64 0,.int .i64 0,.int .i64 0,.int .u32 0,.slice none 0 0,.slice none 0 0,.bool false,.bool false,.bool false,.bool false,.bool false,.bool false,.bool false,.bool false,.bool false,.bool false,.bool false,.bool false,.bool false,.bool false,.bool false,.bool false,.bool false,.bool false,.bool false,.bool false,.bool false,.bool false,.bool false,.bool false,.int .i64 0] T.frame_Pool fun b u =>
 R (.pointer (some ⟨b,0,none⟩)) u
theorem oZk  (h : vZk  w fun v w' => R (.returned v) w') : Calls P F.Zk #[] w R :=
 calls_of_eq (A := ⟨[],[]⟩) mixed Tryz.func23 (by kernel_rfl) (by kernel_rfl) h
def vZs (p : Nat) (i : Int) (w : World) (R : Value -> World -> Prop) : Prop :=
 newB w #[.int .i64 0,.int .i64 0,.int .i64 0,.int .i64 0,.int .i64 0,.int .u32 0,.slice none 0 0,.slice none 0 0] T.frame_Frame fun b u =>
 Calls P F.Z1p #[.pointer (some ⟨p,0,none⟩),.int .i64 i] u fun en u1 => ∃ x,en = .returned (.bool x) /\
 br (!x) (
 stores u1 b 0 [.int .i64 0,.int .i64 0,.int .i64 0,.int .i64 0,.int .i64 0,.int .u32 0,.slice none 0 0,.slice none 0 0] fun u2 =>
 ∃ r0 r1 r2 r3 r4 r5 pr6 nr6 cr6 pr7 nr7 cr7,holds u2 b 0 [.int .i64 r0,.int .i64 r1,.int .i64 r2,.int .i64 r3,.int .i64 r4,.int .u32 r5,.slice pr6 nr6 cr6,.slice pr7 nr7 cr7] /\
 R (.tuple #[.agg #[.int .i64 r0,.int .i64 r1,.int .i64 r2,.int .i64 r3,.int .i64 r4,.int .u32 r5,.slice pr6 nr6 cr6,.slice pr7 nr7 cr7],.bool false]) u2) (
 chk (decide (0 <= i) && decide (i < 24)) (
 ∃ x0 x1 x2 x3 x4 x5 px6 nx6 cx6 px7 nx7 cx7,holds u1 p (0 + i.toNat * 8) [.int .i64 x0,.int .i64 x1,.int .i64 x2,.int .i64 x3,.int .i64 x4,.int .u32 x5,.slice px6 nx6 cx6,.slice px7 nx7 cx7] /\
 newB u1 #[.int .i64 0,.int .i64 0,.int .i64 0,.int .i64 0,.int .i64 0,.int .u32 0,.slice none 0 0,.slice none 0 0] T.frame_Frame fun b1 u3 =>
 stores u3 b1 0 [.int .i64 x0,.int .i64 x1,.int .i64 x2,.int .i64 x3,.int .i64 x4,.int .u32 x5,.slice px6 nx6 cx6,.slice px7 nx7 cx7] fun u4 =>
 wv u4.drew fun u5 =>
 ∃ px nx cx,u5.cell? ⟨b1,6,none⟩ = some (.slice px nx cx) /\
 ∃ px1 nx1 cx1,u5.cell? ⟨b1,7,none⟩ = some (.slice px1 nx1 cx1) /\
 Calls P F.Z1r #[.slice px nx cx] u5 fun en u6 => ∃ px2 nx2 cx2,en = .returned (.slice px2 nx2 cx2) /\
 ((u6.cell? ⟨b1,7,none⟩ = some (.slice px1 nx1 cx1)) /\ True) /\
 Calls P F.Z1q #[.slice px2 nx2 cx2] u6 fun en u7 => ∃ px3 nx3 cx3,en = .returned (.slice px3 nx3 cx3) /\
 ((u7.cell? ⟨b1,7,none⟩ = some (.slice px1 nx1 cx1)) /\ True) /\
 Calls P F.Z1r #[.slice px1 nx1 cx1] u7 fun en u8 => ∃ px4 nx4 cx4,en = .returned (.slice px4 nx4 cx4) /\
 True /\
 Calls P F.Z1q #[.slice px4 nx4 cx4] u8 fun en u9 => ∃ px5 nx5 cx5,en = .returned (.slice px5 nx5 cx5) /\
 True /\
 stores u9 b1 6 [.slice px3 nx3 cx3] fun u10 =>
 True /\
 stores u10 b1 7 [.slice px5 nx5 cx5] fun u11 =>
 True /\
 ∃ x01 x11 x21 x31 x41 x51 px61 nx61 cx61 px71 nx71 cx71,holds u11 b1 0 [.int .i64 x01,.int .i64 x11,.int .i64 x21,.int .i64 x31,.int .i64 x41,.int .u32 x51,.slice px61 nx61 cx61,.slice px71 nx71 cx71] /\
 stores u11 b 0 [.int .i64 x01,.int .i64 x11,.int .i64 x21,.int .i64 x31,.int .i64 x41,.int .u32 x51,.slice px61 nx61 cx61,.slice px71 nx71 cx71] fun u12 =>
 ∃ r01 r11 r21 r31 r41 r51 pr61 nr61 cr61 pr71 nr71 cr71,holds u12 b 0 [.int .i64 r01,.int .i64 r11,.int .i64 r21,.int .i64 r31,.int .i64 r41,.int .u32 r51,.slice pr61 nr61 cr61,.slice pr71 nr71 cr71] /\
 R (.tuple #[.agg #[.int .i64 r01,.int .i64 r11,.int .i64 r21,.int .i64 r31,.int .i64 r41,.int .u32 r51,.slice pr61 nr61 cr61,.slice pr71 nr71 cr71],.bool true]) u12))
theorem oZs {p : Nat} {i : Int} (h : vZs p i w fun v w' => R (.returned v) w') : Calls P F.Zs #[.pointer (some ⟨p,0,none⟩),.int .i64 i] w R :=
 calls_of_eq (A := ⟨[],[]⟩) mixed Tryz.func31 (by kernel_rfl) (by kernel_rfl) h
def vZu (p : Nat) (i : Int) (pc : Int) (w : World) (R : Value -> World -> Prop) : Prop :=
 Calls P F.Z1p #[.pointer (some ⟨p,0,none⟩),.int .i64 i] w fun en u => ∃ x,en = .returned (.bool x) /\
 br (!x) (
 R (.bool false) u) (
 chk (decide (0 <= i) && decide (i < 24)) (
 stores u p (0 + i.toNat * 8 + 1) [.int .i64 pc] fun u1 =>
 R (.bool true) u1))
theorem oZu {p : Nat} {i : Int} {pc : Int} (h : vZu p i pc w fun v w' => R (.returned v) w') : Calls P F.Zu #[.pointer (some ⟨p,0,none⟩),.int .i64 i,.int .i64 pc] w R :=
 calls_of_eq (A := ⟨[],[]⟩) mixed Tryz.func33 (by kernel_rfl) (by kernel_rfl) h
def vZy (p : Nat) (w : World) (R : Value -> World -> Prop) : Prop :=
 ∃ cs : Array Value,holdsRow w p 0 192 cs /\
 ∃ (I : (Option Addr × Nat × Nat) × Int -> World -> Prop) (μ : (Option Addr × Nat × Nat) × Int -> World -> Nat),I ((none,0,0),0) w /\
 ∀ (t : (Option Addr × Nat × Nat) × Int) (u : World),I t u ->
 br (decide (t.2 < 24)) (
 chk (decide (0 <= t.2) && decide (t.2 < 24)) (
 ∃ x0 x1 x2 x3 x4 x5 px6 nx6 cx6 px7 nx7 cx7,rowOf cs (t.2.toNat * 8) [.int .i64 x0,.int .i64 x1,.int .i64 x2,.int .i64 x3,.int .i64 x4,.int .u32 x5,.slice px6 nx6 cx6,.slice px7 nx7 cx7] /\
 newB u #[.int .i64 0,.int .i64 0,.int .i64 0,.int .i64 0,.int .i64 0,.int .u32 0,.slice none 0 0,.slice none 0 0] T.frame_Frame fun b u1 =>
 stores u1 b 0 [.int .i64 x0,.int .i64 x1,.int .i64 x2,.int .i64 x3,.int .i64 x4,.int .u32 x5,.slice px6 nx6 cx6,.slice px7 nx7 cx7] fun u2 =>
 chk (decide (0 <= t.2) && decide (t.2 < 24)) (
 ∃ x,u2.cell? ⟨p,192 + t.2.toNat * 1,none⟩ = some (.bool x) /\
 br x (
 wv u2.drew fun u3 =>
 ∃ x6,u3.cell? ⟨b,5,none⟩ = some (.int .u32 x6) /\
 ∃ px nx cx,u3.cell? ⟨b,6,none⟩ = some (.slice px nx cx) /\
 ∃ px1 nx1 cx1,u3.cell? ⟨b,7,none⟩ = some (.slice px1 nx1 cx1) /\
 newB u3 #[.int .u32 x6] T.uint32 fun b1 u4 =>
 ((u4.cell? ⟨b,7,none⟩ = some (.slice px1 nx1 cx1)) /\ (u4.cell? ⟨b,6,none⟩ = some (.slice px nx cx)) /\ True) /\
 ∃ px2 nx2 cx2 u5,(Builtin.append_ #[T.sl_uint32,T.sl_uint32] T.sl_uint32 #[.slice t.1.1 t.1.2.1 t.1.2.2,.slice (some ⟨b1,0,none⟩) 1 1]).run P u4 = .ok (.slice px2 nx2 cx2) u5 /\ Aft u4 u5 /\
 ((u5.cell? ⟨b,7,none⟩ = some (.slice px1 nx1 cx1)) /\ (u5.cell? ⟨b,6,none⟩ = some (.slice px nx cx)) /\ True) /\
 ∃ px3 nx3 cx3 u6,(Builtin.append_ #[T.sl_uint32,T.sl_uint32] T.sl_uint32 #[.slice px2 nx2 cx2,.slice px nx cx]).run P u5 = .ok (.slice px3 nx3 cx3) u6 /\ Aft u5 u6 /\
 ((u6.cell? ⟨b,7,none⟩ = some (.slice px1 nx1 cx1)) /\ True) /\
 ∃ px4 nx4 cx4 u7,(Builtin.append_ #[T.sl_uint32,T.sl_uint32] T.sl_uint32 #[.slice px3 nx3 cx3,.slice px1 nx1 cx1]).run P u6 = .ok (.slice px4 nx4 cx4) u7 /\ Aft u6 u7 /\
 True /\
 I ((px4,nx4,cx4),IntKind.wrap .i64 (t.2 + 1)) u7 /\ μ ((px4,nx4,cx4),IntKind.wrap .i64 (t.2 + 1)) u7 < μ t u) (
 I ((t.1.1,t.1.2.1,t.1.2.2),IntKind.wrap .i64 (t.2 + 1)) u2 /\ μ ((t.1.1,t.1.2.1,t.1.2.2),IntKind.wrap .i64 (t.2 + 1)) u2 < μ t u)))) (
 Calls P F.Z1q #[.slice t.1.1 t.1.2.1 t.1.2.2] u fun en u8 => ∃ px5 nx5 cx5,en = .returned (.slice px5 nx5 cx5) /\
 R (.slice px5 nx5 cx5) u8)
theorem oZy {p : Nat} (h : vZy p w fun v w' => R (.returned v) w') : Calls P F.Zy #[.pointer (some ⟨p,0,none⟩)] w R :=
 calls_of_eq (A := ⟨[(3,[(3,.slice),(10,(.int .i64))])],[]⟩) mixed Tryz.func37 (by kernel_rfl) (by kernel_rfl) h
def vZ1m (p : Nat) (method : Int) (self : Int) (pslots : Option Addr) (nslots cslots : Nat) (sender : Int) (home : Int) (w : World) (R : Value -> World -> Prop) : Prop :=
 Calls P F.Z2d #[.slice (some ⟨p,192,none⟩) 24 24,.bool false] w fun en u => ∃ x,en = .returned (.int .i64 x) /\
 join (fun (t : Unit) (u1 : World) =>
 join (fun (t1 : Int) (u2 : World) =>
 ∃ x1,u2.cell? ⟨p,216,none⟩ = some (.int .i64 x1) /\
 stores u2 p 216 [.int .i64 (IntKind.wrap .i64 (x1 + 1))] fun u3 =>
 chk (decide (0 <= x) && decide (x < 24)) (
 stores u3 p (192 + x.toNat * 1) [.bool true] fun u4 =>
 wv u4.drew fun u5 =>
 ∃ x2,u5.cell? ⟨p,216,none⟩ = some (.int .i64 x2) /\
 Calls P F.Z1r #[.slice pslots nslots cslots] u5 fun en u6 => ∃ px nx cx,en = .returned (.slice px nx cx) /\
 ((u6.cell? ⟨p,216,none⟩ = some (.int .i64 x2)) /\ True) /\
 chk (decide (0 <= x) && decide (x < 24)) (
 stores u6 p (0 + x.toNat * 8) [.int .i64 method,.int .i64 0,.int .i64 sender,.int .i64 t1,.int .i64 x2,.int .u32 self,.slice px nx cx,.slice none 0 0] fun u7 =>
 True /\
 R (.int .i64 x) u7))) fun J6 =>
 br (decide (home = (-1))) (
 J6 x u1) (
 J6 home u1)) fun J4 =>
 br (decide (x < 0)) (
 R (.int .i64 (-1)) u) (
 br (decide (8 < (nslots : Int))) (
 R (.int .i64 (-1)) u) (
 J4 () u))
theorem oZ1m {p : Nat} {method : Int} {self : Int} {pslots : Option Addr} {nslots cslots : Nat} {sender : Int} {home : Int} (h : vZ1m p method self pslots nslots cslots sender home w fun v w' => R (.returned v) w') : Calls P F.Z1m #[.pointer (some ⟨p,0,none⟩),.int .i64 method,.int .u32 self,.slice pslots nslots cslots,.int .i64 sender,.int .i64 home] w R :=
 calls_of_eq (A := ⟨[],[(4,[]),(6,[(5,(.int .i64))])]⟩) mixed Tryz.func61 (by kernel_rfl) (by kernel_rfl) h
def vZ1p (p : Nat) (i : Int) (w : World) (R : Value -> World -> Prop) : Prop :=
 br (decide (0 <= i)) (
 br (decide (i < 24)) (
 chk (decide (0 <= i) && decide (i < 24)) (
 ∃ x,w.cell? ⟨p,192 + i.toNat * 1,none⟩ = some (.bool x) /\
 R (.bool x) w)) (
 R (.bool false) w)) (
 R (.bool false) w)
theorem oZ1p {p : Nat} {i : Int} (h : vZ1p p i w fun v w' => R (.returned v) w') : Calls P F.Z1p #[.pointer (some ⟨p,0,none⟩),.int .i64 i] w R :=
 calls_of_eq (A := ⟨[],[]⟩) mixed Tryz.func64 (by kernel_rfl) (by kernel_rfl) h
def vZ20 (p : Nat) (i : Int) (w : World) (R : Value -> World -> Prop) : Prop :=
 Calls P F.Z1p #[.pointer (some ⟨p,0,none⟩),.int .i64 i] w fun en u => ∃ x,en = .returned (.bool x) /\
 br (!x) (
 R (.bool false) u) (
 chk (decide (0 <= i) && decide (i < 24)) (
 stores u p (192 + i.toNat * 1) [.bool false] fun u1 =>
 R (.bool true) u1))
theorem oZ20 {p : Nat} {i : Int} (h : vZ20 p i w fun v w' => R (.returned v) w') : Calls P F.Z20 #[.pointer (some ⟨p,0,none⟩),.int .i64 i] w R :=
 calls_of_eq (A := ⟨[],[]⟩) mixed Tryz.func75 (by kernel_rfl) (by kernel_rfl) h
def vZ2f (p : Nat) (i : Int) (u : Int) (w : World) (R : Value -> World -> Prop) : Prop :=
 join (fun (t : Unit) (u1 : World) =>
 wv u1.drew fun u2 =>
 chk (decide (0 <= i) && decide (i < 24)) (
 ∃ px nx cx,u2.cell? ⟨p,0 + i.toNat * 8 + 7,none⟩ = some (.slice px nx cx) /\
 newB u2 #[.int .u32 u] T.uint32 fun b u3 =>
 ((u3.cell? ⟨p,0 + i.toNat * 8 + 7,none⟩ = some (.slice px nx cx)) /\ True) /\
 ∃ px1 nx1 cx1 u4,(Builtin.append_ #[T.sl_uint32,T.sl_uint32] T.sl_uint32 #[.slice px nx cx,.slice (some ⟨b,0,none⟩) 1 1]).run P u3 = .ok (.slice px1 nx1 cx1) u4 /\ Aft u3 u4 /\
 True /\
 chk (decide (0 <= i) && decide (i < 24)) (
 stores u4 p (0 + i.toNat * 8 + 7) [.slice px1 nx1 cx1] fun u5 =>
 True /\
 R (.bool true) u5))) fun J3 =>
 Calls P F.Z1p #[.pointer (some ⟨p,0,none⟩),.int .i64 i] w fun en u6 => ∃ x,en = .returned (.bool x) /\
 br (!x) (
 R (.bool false) u6) (
 chk (decide (0 <= i) && decide (i < 24)) (
 ∃ px2 nx2 cx2,u6.cell? ⟨p,0 + i.toNat * 8 + 7,none⟩ = some (.slice px2 nx2 cx2) /\
 br (decide (8 <= (nx2 : Int))) (
 R (.bool false) u6) (
 J3 () u6)))
theorem oZ2f {p : Nat} {i : Int} {u : Int} (h : vZ2f p i u w fun v w' => R (.returned v) w') : Calls P F.Z2f #[.pointer (some ⟨p,0,none⟩),.int .i64 i,.int .u32 u] w R :=
 calls_of_eq (A := ⟨[],[(3,[])]⟩) mixed Tryz.func90 (by kernel_rfl) (by kernel_rfl) h
def vZ2h (p : Nat) (i : Int) (k : Int) (u : Int) (w : World) (R : Value -> World -> Prop) : Prop :=
 join (fun (t : Unit) (u1 : World) =>
 chk (decide (0 <= i) && decide (i < 24)) (
 ∃ px nx cx,u1.cell? ⟨p,0 + i.toNat * 8 + 6,none⟩ = some (.slice px nx cx) /\
 chk (decide (0 <= k) && decide (k < (nx : Int))) (
 onPtr px fun g o =>
 stores u1 g (o + k.toNat * 1) [.int .u32 u] fun u2 =>
 R (.bool true) u2))) fun J3 =>
 Calls P F.Z1p #[.pointer (some ⟨p,0,none⟩),.int .i64 i] w fun en u3 => ∃ x,en = .returned (.bool x) /\
 br (!x) (
 R (.bool false) u3) (
 br (decide (k < 0)) (
 R (.bool false) u3) (
 chk (decide (0 <= i) && decide (i < 24)) (
 ∃ px1 nx1 cx1,u3.cell? ⟨p,0 + i.toNat * 8 + 6,none⟩ = some (.slice px1 nx1 cx1) /\
 br (decide ((nx1 : Int) <= k)) (
 R (.bool false) u3) (
 J3 () u3))))
theorem oZ2h {p : Nat} {i : Int} {k : Int} {u : Int} (h : vZ2h p i k u w fun v w' => R (.returned v) w') : Calls P F.Z2h #[.pointer (some ⟨p,0,none⟩),.int .i64 i,.int .i64 k,.int .u32 u] w R :=
 calls_of_eq (A := ⟨[],[(3,[])]⟩) mixed Tryz.func92 (by kernel_rfl) (by kernel_rfl) h
def vZ3r (p : Nat) (w : World) (R : Value -> World -> Prop) : Prop :=
 ∃ cs : Array Value,holdsRow w p 192 24 cs /\
 ∃ (I : Int × Int -> World -> Prop) (μ : Int × Int -> World -> Nat),I (0,0) w /\
 ∀ (t : Int × Int) (u : World),I t u ->
 br (decide (t.2 < 24)) (
 chk (decide (0 <= t.2) && decide (t.2 < 24)) (
 ∃ x,cs[t.2.toNat * 1]? = some (.bool x) /\
 br (!x) (
 I (IntKind.wrap .i64 (t.1 + 1),IntKind.wrap .i64 (t.2 + 1)) u /\ μ (IntKind.wrap .i64 (t.1 + 1),IntKind.wrap .i64 (t.2 + 1)) u < μ t u) (
 I (t.1,IntKind.wrap .i64 (t.2 + 1)) u /\ μ (t.1,IntKind.wrap .i64 (t.2 + 1)) u < μ t u))) (
 R (.int .i64 t.1) u)
theorem oZ3r {p : Nat} (h : vZ3r p w fun v w' => R (.returned v) w') : Calls P F.Z3r #[.pointer (some ⟨p,0,none⟩)] w R :=
 calls_of_eq (A := ⟨[(3,[(3,(.int .i64)),(10,(.int .i64))])],[]⟩) mixed Tryz.func139 (by kernel_rfl) (by kernel_rfl) h
def vZ3w (p : Nat) (i : Int) (w : World) (R : Value -> World -> Prop) : Prop :=
 join (fun (t : Unit) (u : World) =>
 chk (decide (0 <= i) && decide (i < 24)) (
 ∃ px nx cx,u.cell? ⟨p,0 + i.toNat * 8 + 7,none⟩ = some (.slice px nx cx) /\
 chk (decide (0 <= i) && decide (i < 24)) (
 ∃ px1 nx1 cx1,u.cell? ⟨p,0 + i.toNat * 8 + 7,none⟩ = some (.slice px1 nx1 cx1) /\
 chk (decide (0 <= IntKind.wrap .i64 ((nx : Int) - 1)) && decide (IntKind.wrap .i64 ((nx : Int) - 1) < (nx1 : Int))) (
 onPtr px1 fun g o =>
 ∃ x,u.cell? ⟨g,o + (IntKind.wrap .i64 ((nx : Int) - 1)).toNat * 1,none⟩ = some (.int .u32 x) /\
 wv u.drew fun u1 =>
 chk (decide (0 <= i) && decide (i < 24)) (
 ∃ px2 nx2 cx2,u1.cell? ⟨p,0 + i.toNat * 8 + 7,none⟩ = some (.slice px2 nx2 cx2) /\
 chk (decide (0 <= 0) && decide (0 <= IntKind.wrap .i64 ((nx : Int) - 1)) && decide (IntKind.wrap .i64 ((nx : Int) - 1) <= (cx2 : Int)) && decide ((cx2 : Int) <= (cx2 : Int))) (
 chk (decide (0 <= i) && decide (i < 24)) (
 stores u1 p (0 + i.toNat * 8 + 7) [.slice (cutAt px2 (Int.toNat (cx2 : Int)) (Int.toNat 0) 1) (Int.toNat (IntKind.wrap .i64 ((nx : Int) - 1)) - Int.toNat 0) (Int.toNat (cx2 : Int) - Int.toNat 0)] fun u2 =>
 True /\
 R (.tuple #[.int .u32 x,.bool true]) u2))))))) fun J3 =>
 Calls P F.Z1p #[.pointer (some ⟨p,0,none⟩),.int .i64 i] w fun en u3 => ∃ x1,en = .returned (.bool x1) /\
 br (!x1) (
 R (.tuple #[.int .u32 0,.bool false]) u3) (
 chk (decide (0 <= i) && decide (i < 24)) (
 ∃ px3 nx3 cx3,u3.cell? ⟨p,0 + i.toNat * 8 + 7,none⟩ = some (.slice px3 nx3 cx3) /\
 br (decide ((nx3 : Int) = 0)) (
 R (.tuple #[.int .u32 0,.bool false]) u3) (
 J3 () u3)))
theorem oZ3w {p : Nat} {i : Int} (h : vZ3w p i w fun v w' => R (.returned v) w') : Calls P F.Z3w #[.pointer (some ⟨p,0,none⟩),.int .i64 i] w R :=
 calls_of_eq (A := ⟨[],[(3,[])]⟩) mixed Tryz.func144 (by kernel_rfl) (by kernel_rfl) h
end
section
structure TFrame where
 method : Int
 pc : Int
 sender : Int
 home : Int
 serial : Int
 self : Int
 slots : List Int
 stack : List Int
 deriving DecidableEq,Repr,Inhabited
structure RFrame where
 method : Int
 pc : Int
 sender : Int
 home : Int
 serial : Int
 self : Int
 slots : Hd
 stack : Hd
abbrev RFrame.vs (r : RFrame) : List Value := [.int .i64 r.method,.int .i64 r.pc,.int .i64 r.sender,.int .i64 r.home,.int .i64 r.serial,.int .u32 r.self,.slice r.slots.p r.slots.n r.slots.c,.slice r.stack.p r.stack.n r.stack.c]
abbrev eFrame : Enc RFrame := ⟨RFrame.vs,8,fun _ => rfl,fun x u hu => by simp at hu; rcases hu with rfl | rfl | rfl | rfl | rfl | rfl | rfl | rfl <;> rfl,by omega⟩
structure TPool where
 l : List TFrame
 used : List Bool
 serial : Int
 deriving DecidableEq,Repr,Inhabited
def TPool.fr (σ : TPool) (i : Int) : TFrame := σ.l.getD i.toNat default
def pIs (σ : TPool) (i : Int) : Bool := decide (0 <= i) && decide (i < 24) && σ.used.getD i.toNat false
def TPool.put (σ : TPool) (i : Int) (x : TFrame) : TPool := { σ with l := σ.l.set i.toNat x }
def pZero : TFrame := ⟨0,0,0,0,0,0,[],[]⟩
def pNew : TPool := ⟨List.replicate 24 pZero,List.replicate 24 false,0⟩
def pTake (σ : TPool) (method self : Int) (slots : List Int) (sender home : Int) : Int × TPool :=
 let i := indexB false σ.used
 if i < 0 \/ 8 < slots.length then (-1,σ) else
 let s := IntKind.wrap .i64 (σ.serial + 1)
 (i,⟨σ.l.set i.toNat ⟨method,0,sender,if home = -1 then i else home,s,self,slots,[]⟩,σ.used.set i.toNat true,s⟩)
def pGive (σ : TPool) (i : Int) : TPool := if pIs σ i then { σ with used := σ.used.set i.toNat false } else σ
def pAt (σ : TPool) (i : Int) : TFrame × Bool := if pIs σ i then (σ.fr i,true) else (pZero,false)
def pGoto (σ : TPool) (i pc : Int) : TPool := if pIs σ i then σ.put i { σ.fr i with pc := pc } else σ
def pPush (σ : TPool) (i v : Int) : TPool := if pIs σ i /\ (σ.fr i).stack.length < 8 then σ.put i { σ.fr i with stack := (σ.fr i).stack ++ [v] } else σ
def pPop (σ : TPool) (i : Int) : TPool := if pIs σ i then σ.put i { σ.fr i with stack := (σ.fr i).stack.dropLast } else σ
def pSlot (σ : TPool) (i k v : Int) : TPool := if pIs σ i /\ 0 <= k /\ k < (σ.fr i).slots.length then σ.put i { σ.fr i with slots := (σ.fr i).slots.set k.toNat v } else σ
def pFree (σ : TPool) : Nat := σ.used.count false
def pRootsFrom : List TFrame -> List Bool -> List Int
 | x :: l,u :: us => (if u then x.self :: (x.slots ++ x.stack) else []) ++ pRootsFrom l us
 | _,_ => []
def pRoots (σ : TPool) : List Int := pRootsFrom σ.l σ.used
structure IsFrame (h : Hp) (o1 o2 : Nat -> Prop) (r : RFrame) (x : TFrame) : Prop where
 method : r.method = x.method
 pc : r.pc = x.pc
 sender : r.sender = x.sender
 home : r.home = x.home
 serial : r.serial = x.serial
 self : r.self = x.self
 slots : SlH h o1 eU32 r.slots x.slots
 stack : SlH h o2 eU32 r.stack x.stack
 sm : x.slots.length <= 8 /\ x.stack.length <= 8
theorem IsFrame.fr {h h' : Hp} {o1 o2 p1 p2 S : Nat -> Prop} {r : RFrame} {x : TFrame} (hx : IsFrame h o1 o2 r x) (hf : Fr S h h') (h1 : ∀ y,y < h.size -> o1 y -> ¬ S y /\ p1 y) (h2 : ∀ y,y < h.size -> o2 y -> ¬ S y /\ p2 y) : IsFrame h' p1 p2 r x :=
 ⟨hx.method,hx.pc,hx.sender,hx.home,hx.serial,hx.self,hx.slots.fr hf (fun y hy ho => (h1 y hy ho).1) (fun y hy ho => (h1 y hy ho).2),hx.stack.fr hf (fun y hy ho => (h2 y hy ho).1) (fun y hy ho => (h2 y hy ho).2),hx.sm⟩
def pcells (R : List RFrame) (u : List Bool) (s : Int) : List Value := recs eFrame R ++ u.map Value.bool ++ [.int .i64 s]
structure PoolC (h : Hp) (ok : Nat -> Prop) (b : Nat) (σ : TPool) (R : List RFrame) (κ : Nat -> Nat) : Prop where
 bk : Bk h b (pcells R σ.used σ.serial)
 lenR : R.length = 24
 lenU : σ.used.length = 24
 lenL : σ.l.length = 24
 okb : ok b
 kb : κ b = 0
 frs : ∀ (i : Nat) (r : RFrame) (x : TFrame),R[i]? = some r -> σ.l[i]? = some x -> IsFrame h (fun y => ok y /\ κ y = 2 * i + 1) (fun y => ok y /\ κ y = 2 * i + 2) r x
def IsPool (h : Hp) (ok : Nat -> Prop) (b : Nat) (σ : TPool) : Prop := ∃ R κ,PoolC h ok b σ R κ
theorem PoolC.mk' {h : Hp} {ok : Nat -> Prop} {b : Nat} {σ : TPool} {R : List RFrame} {κ : Nat -> Nat} (hp : PoolC h ok b σ R κ) : IsPool h ok b σ := ⟨R,κ,hp⟩
theorem PoolC.fr {h h' : Hp} {ok ok' S : Nat -> Prop} {b : Nat} {σ : TPool} {R : List RFrame} {κ : Nat -> Nat} (hp : PoolC h ok b σ R κ) (hf : Fr S h h') (hd : ∀ y,y < h.size -> ok y -> ¬ S y) (hok : ∀ y,y < h.size -> ok y -> ok' y) : PoolC h' ok' b σ R κ :=
 ⟨hp.bk.fr hf (hd _ hp.bk.lt hp.okb),hp.lenR,hp.lenU,hp.lenL,hok _ hp.bk.lt hp.okb,hp.kb,fun i r x hr hx => (hp.frs i r x hr hx).fr hf (fun y hy h => ⟨hd y hy h.1,hok y hy h.1,h.2⟩) (fun y hy h => ⟨hd y hy h.1,hok y hy h.1,h.2⟩)⟩
theorem IsPool.fr {h h' : Hp} {ok ok' S : Nat -> Prop} {b : Nat} {σ : TPool} (hp : IsPool h ok b σ) (hf : Fr S h h') (hd : ∀ y,y < h.size -> ok y -> ¬ S y) (hok : ∀ y,y < h.size -> ok y -> ok' y) : IsPool h' ok' b σ := by
 obtain ⟨R,κ,hp⟩ := hp
 exact ⟨R,κ,hp.fr hf hd hok⟩
theorem PoolC.nw {h h' : Hp} {ok : Nat -> Prop} {b : Nat} {σ : TPool} {R : List RFrame} {κ : Nat -> Nat} (hp : PoolC h ok b σ R κ) (hf : Nw h h') : PoolC h' ok b σ R κ := hp.fr hf (fun _ _ _ h => h) fun _ _ h => h
theorem IsPool.nw {h h' : Hp} {ok : Nat -> Prop} {b : Nat} {σ : TPool} (hp : IsPool h ok b σ) (hf : Nw h h') : IsPool h' ok b σ := hp.fr hf (fun _ _ _ h => h) fun _ _ h => h
def ret (κ : Nat -> Nat) (n t : Nat) : Nat -> Nat := fun y => if y < n then κ y else t
theorem ret_lt {κ : Nat -> Nat} {n t y : Nat} (h : y < n) : ret κ n t y = κ y := if_pos h
theorem ret_ge {κ : Nat -> Nat} {n t y : Nat} (h : n <= y) : ret κ n t y = t := if_neg (by omega)
def PoolTo (ok : Nat -> Prop) (b : Nat) (v : Value) (σ : TPool) (w : World) : Ending -> World -> Prop :=
 fun en w' => en = .returned v /\ IsPool w'.heap (Old ok w.heap) b σ /\ Fr ok w.heap w'.heap
section
variable {R : List RFrame} {u : List Bool} {s : Int}
theorem pc_hl (h1 : R.length = 24) : (recs eFrame R).length = 192 := by
 rw [recs_length]; show R.length * 8 = 192; omega
theorem pc_len (h1 : R.length = 24) (h2 : u.length = 24) : (pcells R u s).length = 217 := by
 simp [pcells,recs_length,h1,h2]
theorem pc_frame {k j : Nat} {r : RFrame} (hr : R[k]? = some r) (hj : j < 8) : (pcells R u s)[0 + k * 8 + j]? = r.vs[j]? := by
 have hk := (List.getElem?_eq_some_iff.1 hr).1
 rw [pcells,List.append_assoc,Nat.zero_add,List.getElem?_append_left (by rw [recs_length]; show k * 8 + j < R.length * 8; omega)]
 exact recs_get hr hj
theorem pc_used {k : Nat} {x : Bool} (h1 : R.length = 24) (hx : u[k]? = some x) : (pcells R u s)[192 + k * 1]? = some (.bool x) := by
 have hk := (List.getElem?_eq_some_iff.1 hx).1
 have hl : (recs eFrame R).length = 192 := pc_hl h1
 rw [pcells,List.append_assoc,List.getElem?_append_right (by omega),hl,List.getElem?_append_left (by simp; omega),Nat.add_sub_cancel_left,Nat.mul_one,List.getElem?_map,hx]; rfl
theorem pc_serial (h1 : R.length = 24) (h2 : u.length = 24) : (pcells R u s)[216]? = some (.int .i64 s) := by
 have hl : (recs eFrame R).length = 192 := pc_hl h1
 rw [pcells,List.getElem?_append_right (by simp [hl,h2])]
 simp [hl,h2]
theorem pc_sets {k j : Nat} {r r' : RFrame} {vs : List Value} (hr : R[k]? = some r) (hj : j + vs.length <= 8) (he : sets r.vs j vs = r'.vs) : sets (pcells R u s) (0 + k * 8 + j) vs = pcells (R.set k r') u s := by
 have hk := (List.getElem?_eq_some_iff.1 hr).1
 have hset : recs eFrame (R.set k r') = sets (recs eFrame R) (k * 8) r'.vs := recs_set (E := eFrame) hk r'
 have hl : (recs eFrame R).length = R.length * 8 := recs_length R
 rw [pcells,pcells,hset,List.append_assoc,List.append_assoc]
 have hle : k * 8 + 8 <= R.length * 8 := by omega
 rw [Nat.zero_add,sets_eq _ _ _ (by simp only [List.length_append,hl]; omega),sets_eq _ _ _ (by simp only [hl,List.length_cons,List.length_nil]; omega),List.take_append_of_le_length (by omega),List.drop_append_of_le_length (by omega),<- he]
 have hsp : recs eFrame R = recs eFrame (R.take k) ++ r.vs ++ recs eFrame (R.drop (k + 1)) := recs_split hr
 have hlt : (recs eFrame (R.take k)).length = k * 8 := by rw [recs_length,List.length_take,Nat.min_eq_left (by omega)]
 rw [sets_eq vs r.vs j (by simpa using hj),hsp]
 have e1 : k * 8 + (List.take j r.vs ++ vs ++ List.drop (j + vs.length) r.vs).length = k * 8 + 8 := by
  simp only [List.length_append,List.length_take,List.length_drop,List.length_cons,List.length_nil]; omega
 have e8 : List.drop 8 (r.vs ++ recs eFrame (R.drop (k + 1))) = recs eFrame (R.drop (k + 1)) := List.drop_left' (by simp)
 rw [e1,<- hlt]
 simp only [List.append_assoc,List.take_left,List.take_length_add_append,Nat.add_assoc,List.drop_length_add_append,e8]
 rw [List.take_append_of_le_length (by simp; omega),List.drop_append_of_le_length (by simp; omega)]
 simp only [List.append_assoc]
theorem pc_setU {k : Nat} {x : Bool} (h1 : R.length = 24) (hk : k < u.length) : sets (pcells R u s) (192 + k * 1) [.bool x] = pcells R (u.set k x) s := by
 have hl : (recs eFrame R).length = 192 := pc_hl h1
 simp only [sets,pcells]
 rw [List.append_assoc,List.append_assoc,List.set_append_right _ _ (by omega),hl,Nat.add_sub_cancel_left,Nat.mul_one,List.set_append_left _ _ (by simpa using hk),List.map_set]
theorem pc_setS {t : Int} (h1 : R.length = 24) (h2 : u.length = 24) : sets (pcells R u s) 216 [.int .i64 t] = pcells R u t := by
 have hl : (recs eFrame R).length = 192 := pc_hl h1
 simp only [sets,pcells]
 rw [List.set_append_right _ _ (by simp [hl,h2])]
 simp [hl,h2]
end
section
variable {ok : Nat -> Prop} {b : Nat} {σ : TPool} {R : List RFrame} {κ : Nat -> Nat}
theorem PoolC.is {h : Hp} (hp : PoolC h ok b σ R κ) {i : Int} (hi : pIs σ i = true) : ∃ (k : Nat) (r : RFrame) (x : TFrame),i = (k : Int) /\ k < 24 /\ σ.used[k]? = some true /\ R[k]? = some r /\ σ.l[k]? = some x /\ σ.fr i = x /\ IsFrame h (fun y => ok y /\ κ y = 2 * k + 1) (fun y => ok y /\ κ y = 2 * k + 2) r x := by
 simp only [pIs,Bool.and_eq_true,ZJ] at hi
 obtain ⟨⟨h1,h2⟩,h3⟩ := hi
 obtain ⟨k,rfl⟩ := Int.eq_ofNat_of_zero_le h1
 have hk : k < 24 := by omega
 have hU : σ.used[k]? = some true := by rw [getD_some (d := false) (by rw [hp.lenU]; exact hk)]; exact congrArg some h3
 have hR : R[k]? = some (R[k]'(by rw [hp.lenR]; exact hk)) := List.getElem?_eq_getElem _
 have hL : σ.l[k]? = some (σ.l[k]'(by rw [hp.lenL]; exact hk)) := List.getElem?_eq_getElem _
 exact ⟨k,_,_,rfl,hk,hU,hR,hL,by simp [TPool.fr,List.getD_eq_getElem?_getD,hL],hp.frs k _ _ hR hL⟩
theorem PoolC.upd {h h' : Hp} {S : Nat -> Prop} (hp : PoolC h ok b σ R κ) {k t : Nat} (hk : k < 24) {r' : RFrame} {x' : TFrame} {u' : List Bool} {s' : Int} (hu : u'.length = 24) (hf : Fr S h h') (ht : t = 2 * k + 1 \/ t = 2 * k + 2)
  (hS : ∀ y,y < h.size -> ok y -> S y -> κ y = 0 \/ κ y = 2 * k + 1 \/ κ y = 2 * k + 2) (hB : Bk h' b (pcells (R.set k r') u' s'))
  (hr : IsFrame h' (fun y => Old ok h y /\ ret κ h.size t y = 2 * k + 1) (fun y => Old ok h y /\ ret κ h.size t y = 2 * k + 2) r' x') : PoolC h' (Old ok h) b ⟨σ.l.set k x',u',s'⟩ (R.set k r') (ret κ h.size t) := by
 refine ⟨hB,by simp [hp.lenR],hu,by simp [hp.lenL],.inl hp.okb,by rw [ret_lt hp.bk.lt,hp.kb],fun i r x hi hx => ?_⟩
 by_cases hik : i = k
 ·subst hik
  simp [hp.lenR,hp.lenL,hk] at hi hx
  subst hi hx
  exact hr
 ·simp only at hx
  rw [List.getElem?_set_ne (Ne.symm hik)] at hi hx
  refine (hp.frs i r x hi hx).fr hf (fun y hy ho => ⟨fun hs => ?_,.inl ho.1,by rw [ret_lt hy]; exact ho.2⟩) (fun y hy ho => ⟨fun hs => ?_,.inl ho.1,by rw [ret_lt hy]; exact ho.2⟩)
  ·have := hS y hy ho.1 hs; have := ho.2; omega
  ·have := hS y hy ho.1 hs; have := ho.2; omega
end
theorem frame_New_ok (w : World) : Calls P F.Zk #[] w fun en w' => ∃ b,en = .returned (.pointer (some ⟨b,0,none⟩)) /\ IsPool w'.heap (Fresh w.heap) b pNew /\ Nw w.heap w'.heap := by
 refine oZk ?_
 refine newB_i ?_; intro b w1 b_eq hB hN w1_sz; try simp only [drew_heap',dr_heap] at b_eq hN
 refine ⟨b,rfl,⟨List.replicate 24 ⟨0,0,0,0,0,0,⟨none,0,0⟩,⟨none,0,0⟩⟩,fun _ => 0,⟨hB,rfl,rfl,rfl,by simp [b_eq],rfl,fun i r x hr hx => ?_⟩⟩,hN⟩
 have h1 := List.eq_of_mem_replicate (List.mem_of_getElem? hr)
 have h2 := List.eq_of_mem_replicate (List.mem_of_getElem? hx)
 subst h1 h2
 exact ⟨rfl,rfl,rfl,rfl,rfl,rfl,Sl.nil,Sl.nil,by simp [pZero]⟩
section
variable {w : World} {ok : Nat -> Prop} {b : Nat} {σ : TPool}
theorem frame_is_ok (hp : IsPool w.heap ok b σ) (i : Int) : Calls P F.Z1p #[.pointer (some ⟨b,0,none⟩),.int .i64 i] w (Is (.bool (pIs σ i)) w) := by
 obtain ⟨R,κ,hp⟩ := hp
 refine oZ1p ?_
 unfold pIs
 refine br_of (fun h1 => ?_) (fun h1 => ?_) <;> simp only [ZJ,ZK,ZL,ZM,ZN,ZO,ZP,ZQ,ZR] at h1
 ·refine br_of (fun h2 => ?_) (fun h2 => ?_) <;> simp only [ZJ,ZK,ZL,ZM,ZN,ZO,ZP,ZQ,ZR] at h2
  ·obtain ⟨k,rfl⟩ := Int.eq_ofNat_of_zero_le h1
   refine chk_of (by simp; omega) ?_
   refine ⟨_,by rw [Int.toNat_natCast,hp.bk.cell,pc_used hp.lenR (getD_some (d := false) (by rw [hp.lenU]; omega))],?_⟩
   simp only [h1,h2,decide_true,Bool.true_and,Int.toNat_natCast]
   exact Is.mk _ _
  ·simp only [h1,show ¬ i < 24 by omega,decide_true,decide_false,Bool.true_and,Bool.false_and]
   exact Is.mk _ _
 ·simp only [show ¬ 0 <= i by omega,decide_false,Bool.false_and]
  exact Is.mk _ _
theorem PoolC.same {h : Hp} {R : List RFrame} {κ : Nat -> Nat} (hp : PoolC h ok b σ R κ) : IsPool h (Old ok h) b σ := ⟨R,κ,hp.fr (Fr.refl (fun _ => False) h) (fun _ _ _ h => h) fun _ _ h => .inl h⟩
theorem frame_Give_ok (hp : IsPool w.heap ok b σ) (i : Int) : Calls P F.Z20 #[.pointer (some ⟨b,0,none⟩),.int .i64 i] w (PoolTo ok b (.bool (pIs σ i)) (pGive σ i) w) := by
 obtain ⟨R,κ,hp⟩ := hp
 refine oZ20 ?_
 refine (frame_is_ok ⟨R,κ,hp⟩ i).mono ?_; rintro _ _ ⟨rfl,n,rfl⟩
 refine ⟨_,rfl,?_⟩
 refine br_of (fun hi => ?_) (fun hi => ?_) <;> simp only [ZL,ZM] at hi
 ·exact ⟨by rw [hi],by simpa [pGive,hi] using hp.same,Fr.refl _ _⟩
 ·obtain ⟨k,r,x,rfl,hk,hU,hR,hL,hx,hfr⟩ := hp.is hi
  refine chk_of (by simp; omega) ?_
  refine stores_i hp.bk (by rw [pc_len hp.lenR hp.lenU]; simp; omega) ?_; intro w1 hB1 hF1 hz1
  rw [Int.toNat_natCast,pc_setU hp.lenR (by rw [hp.lenU]; exact hk)] at hB1
  refine ⟨by rw [hi],⟨R,κ,?_⟩,hF1.mono fun y _ hy => by rw [hy]; exact hp.okb⟩
  rw [pGive,if_pos hi]
  exact ⟨hB1,hp.lenR,by simp [hp.lenU],hp.lenL,.inl hp.okb,hp.kb,fun i r x hr hx => (hp.frs i r x hr hx).fr hF1 (fun y _ h => ⟨fun e => by have := hp.kb; have := h.2; subst e; omega,.inl h.1,h.2⟩) (fun y _ h => ⟨fun e => by have := hp.kb; have := h.2; subst e; omega,.inl h.1,h.2⟩)⟩
theorem frame_Goto_ok (hp : IsPool w.heap ok b σ) (i pc : Int) : Calls P F.Zu #[.pointer (some ⟨b,0,none⟩),.int .i64 i,.int .i64 pc] w (PoolTo ok b (.bool (pIs σ i)) (pGoto σ i pc) w) := by
 obtain ⟨R,κ,hp⟩ := hp
 refine oZu ?_
 refine (frame_is_ok ⟨R,κ,hp⟩ i).mono ?_; rintro _ _ ⟨rfl,n,rfl⟩
 refine ⟨_,rfl,?_⟩
 refine br_of (fun hi => ?_) (fun hi => ?_) <;> simp only [ZL,ZM] at hi
 ·exact ⟨by rw [hi],by simpa [pGoto,hi] using hp.same,Fr.refl _ _⟩
 ·obtain ⟨k,r,x,rfl,hk,hU,hR,hL,hx,hfr⟩ := hp.is hi
  refine chk_of (by simp; omega) ?_
  refine stores_i hp.bk (by rw [pc_len hp.lenR hp.lenU]; simp; omega) ?_; intro w1 hB1 hF1 hz1
  rw [Int.toNat_natCast,pc_sets (r' := { r with pc := pc }) hR (by simp) rfl] at hB1
  refine ⟨by rw [hi],?_,hF1.mono fun y _ hy => by rw [hy]; exact hp.okb⟩
  rw [pGoto,if_pos hi,hx]
  refine PoolC.mk' (hp.upd (x' := { x with pc := pc }) hk hp.lenU hF1 (.inl rfl) (fun y _ _ e => .inl (by rw [e]; exact hp.kb)) hB1 ?_)
  have := hfr.fr (p1 := fun y => Old ok w.heap y /\ ret κ w.heap.size (2 * k + 1) y = 2 * k + 1) (p2 := fun y => Old ok w.heap y /\ ret κ w.heap.size (2 * k + 1) y = 2 * k + 2) hF1 (fun y hy h => ⟨fun e => by have := hp.kb; have := h.2; subst e; omega,.inl h.1,by rw [ret_lt hy]; exact h.2⟩) (fun y hy h => ⟨fun e => by have := hp.kb; have := h.2; subst e; omega,.inl h.1,by rw [ret_lt hy]; exact h.2⟩)
  exact ⟨this.method,rfl,this.sender,this.home,this.serial,this.self,this.slots,this.stack,this.sm⟩
theorem frame_Push_ok (hp : IsPool w.heap ok b σ) (i v : Int) : Calls P F.Z2f #[.pointer (some ⟨b,0,none⟩),.int .i64 i,.int .u32 v] w fun en w' => ∃ t : Bool,PoolTo ok b (.bool t) (pPush σ i v) w en w' := by
 obtain ⟨R,κ,hp⟩ := hp
 refine oZ2f ?_
 unfold vZ2f
 simp only [join_eq]
 refine (frame_is_ok ⟨R,κ,hp⟩ i).mono ?_; rintro _ _ ⟨rfl,n,rfl⟩
 refine ⟨_,rfl,?_⟩
 refine br_of (fun hi => ?_) (fun hi => ?_) <;> simp only [ZL,ZM] at hi
 ·exact ⟨_,rfl,by simpa [pPush,hi] using hp.same,Fr.refl _ _⟩
 ·obtain ⟨k,r,x,rfl,hk,hU,hR,hL,hx,hfr⟩ := hp.is hi
  refine chk_of (by simp; omega) ?_
  refine ⟨r.stack.p,r.stack.n,r.stack.c,by rw [dr_cell,hp.bk.cell,Int.toNat_natCast,pc_frame hR (by omega)]; rfl,?_⟩
  have hln := hfr.stack.len
  refine br_of (fun h1 => ?_) (fun h1 => ?_) <;> simp only [ZJ,ZK,ZL,ZM,ZN,ZO,ZP,ZQ,ZR] at h1
  ·refine ⟨_,rfl,?_,Fr.refl _ _⟩
   rw [pPush,if_neg (by rw [hx]; omega)]; exact hp.same
  ·refine chk_of (by simp; omega) ?_
   refine ⟨r.stack.p,r.stack.n,r.stack.c,by rw [World.cell?_drew,dr_cell,hp.bk.cell,Int.toNat_natCast,pc_frame hR (by omega)]; rfl,?_⟩
   refine newB_i ?_; intro b1 w3 b1_eq hB hN w3_sz; try simp only [drew_heap',dr_heap] at b1_eq hN
   have hp3 := hp.bk.nw hN
   have hs1 : Sl w3.heap (fun y => y = b1) eU32 (some ⟨b1,0,none⟩) 1 1 [v] := (Sl.of_blk (l := [v]) (E := eU32) hB rfl rfl (by simp)).mono fun _ _ h => h.symm
   refine ⟨⟨by rw [hp3.cell,Int.toNat_natCast,pc_frame hR (by omega)]; rfl,trivial⟩,?_⟩
   refine append_r ty_u32 (hfr.stack.nw hN) hs1 (by omega) ?_
   intro p' c' w4 h4 hF4
   have hp4 := hp3.fr hF4 (fun h => by have := hp.kb; have := h.2; omega)
   refine ⟨trivial,chk_of (by simp; omega) ?_⟩
   refine stores_i hp4 (by rw [pc_len hp.lenR hp.lenU]; simp; omega) ?_; intro w5 hB5 hF5 hz5
   rw [Int.toNat_natCast,pc_sets (r' := { r with stack := ⟨p',r.stack.n + 1,c'⟩ }) hR (by simp) rfl] at hB5
   refine ⟨trivial,true,rfl,?_,?_⟩
   ·rw [pPush,if_pos ⟨hi,by rw [hx]; omega⟩,hx]
    have hF : Fr (fun y => (ok y /\ κ y = 2 * k + 2) \/ y = b) w.heap w5.heap := (hN.fr.trans hF4 (fun _ _ h => h) (fun y _ h => .inl h)).trans hF5 (fun _ _ h => h) fun y _ h => .inr h
    refine PoolC.mk' (hp.upd (t := 2 * k + 2) (x' := { x with stack := x.stack ++ [v] }) hk hp.lenU hF (.inr rfl) (fun y _ _ h => by rcases h with h | h; exact .inr (.inr h.2); exact .inl (by rw [h]; exact hp.kb)) hB5 ?_)
    have h0 := hfr.fr (p1 := fun y => Old ok w.heap y /\ ret κ w.heap.size (2 * k + 2) y = 2 * k + 1) (p2 := fun y => ok y /\ κ y = 2 * k + 2) (Fr.refl (fun _ => False) _) (fun y hy h => ⟨id,.inl h.1,by rw [ret_lt hy]; exact h.2⟩) (fun y hy h => ⟨id,h⟩)
    refine ⟨h0.method,h0.pc,h0.sender,h0.home,h0.serial,h0.self,?_,?_,h0.sm.1,by simp; omega⟩
    ·exact hfr.slots.fr hF (fun y hy h e => by rcases e with e | e; (have := h.2; have := e.2; omega); (have := h.2; have := hp.kb; subst e; omega)) (fun y hy h => ⟨.inl h.1,by rw [ret_lt hy]; exact h.2⟩)
    ·refine h4.fr hF5 (fun y hy h e => ?_) (fun y hy h => ?_)
     ·have := hp.kb; have := hp.bk.lt; have := hN.le; subst e; rcases h with h | h; (have := h.2; omega); omega
     ·rcases h with h | h
      ·by_cases hy' : y < w.heap.size
       ·exact ⟨.inl h.1,by rw [ret_lt hy']; exact h.2⟩
       ·exact ⟨.inr (by omega),by rw [ret_ge (by omega)]⟩
      ·have := hN.le; exact ⟨.inr (by omega),by rw [ret_ge (by omega)]⟩
   ·exact (hN.fr.trans (T := ok) hF4 (fun _ _ h => h) (fun y _ h => h.1)).trans hF5 (fun _ _ h => h) fun y _ h => by rw [h]; exact hp.okb
theorem set_same {α : Type} {l : List α} {k : Nat} {x : α} (h : l[k]? = some x) : l.set k x = l := by
 obtain ⟨hk,rfl⟩ := List.getElem?_eq_some_iff.1 h
 exact List.set_getElem_self hk
theorem frame_Slot_ok (hp : IsPool w.heap ok b σ) (i k v : Int) : Calls P F.Z2h #[.pointer (some ⟨b,0,none⟩),.int .i64 i,.int .i64 k,.int .u32 v] w fun en w' => ∃ t : Bool,PoolTo ok b (.bool t) (pSlot σ i k v) w en w' := by
 obtain ⟨R,κ,hp⟩ := hp
 refine oZ2h ?_
 unfold vZ2h
 simp only [join_eq]
 refine (frame_is_ok ⟨R,κ,hp⟩ i).mono ?_; rintro _ _ ⟨rfl,n,rfl⟩
 refine ⟨_,rfl,?_⟩
 refine br_of (fun hi => ?_) (fun hi => ?_) <;> simp only [ZL,ZM] at hi
 ·exact ⟨_,rfl,by simpa [pSlot,hi] using hp.same,Fr.refl _ _⟩
 ·obtain ⟨m,r,x,rfl,hm,hU,hR,hL,hx,hfr⟩ := hp.is hi
  have hln := hfr.slots.len
  refine br_of (fun h1 => ?_) (fun h1 => ?_) <;> simp only [ZJ,ZK,ZL,ZM,ZN,ZO,ZP,ZQ,ZR] at h1
  ·refine ⟨_,rfl,?_,Fr.refl _ _⟩
   rw [pSlot,if_neg (by rw [hx]; omega)]; exact hp.same
  refine chk_of (by simp; omega) ?_
  refine ⟨r.slots.p,r.slots.n,r.slots.c,by rw [dr_cell,hp.bk.cell,Int.toNat_natCast,pc_frame hR (by omega)]; rfl,?_⟩
  refine br_of (fun h2 => ?_) (fun h2 => ?_) <;> simp only [ZJ,ZK,ZL,ZM,ZN,ZO,ZP,ZQ,ZR] at h2
  ·refine ⟨_,rfl,?_,Fr.refl _ _⟩
   rw [pSlot,if_neg (by rw [hx]; omega)]; exact hp.same
  refine chk_of (by simp; omega) ?_
  refine ⟨r.slots.p,r.slots.n,r.slots.c,by rw [dr_cell,hp.bk.cell,Int.toNat_natCast,pc_frame hR (by omega)]; rfl,?_⟩
  obtain ⟨j,rfl⟩ := Int.eq_ofNat_of_zero_le h1
  refine chk_of (by simp; omega) ?_
  refine hfr.slots.st (w := dr w n) (i := j) (by omega) v ?_; intro g o hg hst
  refine hst _ ?_; intro w1 h1' hF1 hz1
  have hgb : b ≠ g := fun e => by have := hp.kb; have := hg.2; subst e; omega
  have hB1 : Bk w1.heap b (pcells (R.set m r) σ.used σ.serial) := by rw [set_same hR]; exact hp.bk.fr hF1 hgb
  refine ⟨true,rfl,?_,hF1.mono fun y _ hy => by rw [hy]; exact hg.1⟩
  rw [pSlot,if_pos ⟨hi,by rw [hx]; omega⟩,hx]
  refine PoolC.mk' (hp.upd (t := 2 * m + 1) (x' := { x with slots := x.slots.set j v }) hm hp.lenU hF1 (.inl rfl) (fun y _ _ e => .inr (.inl (by rw [e]; exact hg.2))) hB1 ?_)
  refine ⟨hfr.method,hfr.pc,hfr.sender,hfr.home,hfr.serial,hfr.self,?_,?_,by simpa using hfr.sm⟩
  ·exact h1'.mono fun y hy h => ⟨.inl h.1,by rw [ret_lt (by have : w1.heap.size = w.heap.size := hz1; omega)]; exact h.2⟩
  ·exact hfr.stack.fr hF1 (fun y _ h e => by have := h.2; have := hg.2; subst e; omega) (fun y hy h => ⟨.inl h.1,by rw [ret_lt hy]; exact h.2⟩)
theorem frame_Pop_ok (hp : IsPool w.heap ok b σ) (i : Int) : Calls P F.Z3w #[.pointer (some ⟨b,0,none⟩),.int .i64 i] w fun en w' => ∃ (v : Int) (t : Bool),PoolTo ok b (.tuple #[.int .u32 v,.bool t]) (pPop σ i) w en w' := by
 obtain ⟨R,κ,hp⟩ := hp
 refine oZ3w ?_
 unfold vZ3w
 simp only [join_eq]
 refine (frame_is_ok ⟨R,κ,hp⟩ i).mono ?_; rintro _ _ ⟨rfl,n,rfl⟩
 refine ⟨_,rfl,?_⟩
 refine br_of (fun hi => ?_) (fun hi => ?_) <;> simp only [ZL,ZM] at hi
 ·exact ⟨_,_,rfl,by simpa [pPop,hi] using hp.same,Fr.refl _ _⟩
 ·obtain ⟨k,r,x,rfl,hk,hU,hR,hL,hx,hfr⟩ := hp.is hi
  have hln := hfr.stack.len; have hsm := hfr.sm.2
  refine chk_of (by simp; omega) ?_
  have hc : ∀ w' : World,w'.heap = w.heap -> w'.cell? ⟨b,0 + (k : Int).toNat * 8 + 7,none⟩ = some (.slice r.stack.p r.stack.n r.stack.c) := fun w' e => by
   have : Bk w'.heap b (pcells R σ.used σ.serial) := by rw [e]; exact hp.bk
   rw [this.cell,Int.toNat_natCast,pc_frame hR (by omega)]; rfl
  refine ⟨_,_,_,hc _ rfl,?_⟩
  refine br_of (fun h1 => ?_) (fun h1 => ?_) <;> simp only [ZJ,ZK,ZL,ZM,ZN,ZO,ZP,ZQ,ZR] at h1
  ·refine ⟨_,_,rfl,?_,Fr.refl _ _⟩
   have h0 : x.stack = [] := List.eq_nil_of_length_eq_zero (by omega)
   have : σ.put k { x with stack := x.stack.dropLast } = σ := by
    have : ({ x with stack := x.stack.dropLast } : TFrame) = x := by
     cases x; simp at h0; subst h0; rfl
    rw [this,TPool.put,Int.toNat_natCast,set_same hL]
   rw [pPop,if_pos hi,hx,this]; exact hp.same
  ·refine chk_of (by simp; omega) ⟨_,_,_,hc _ rfl,chk_of (by simp; omega) ⟨_,_,_,hc _ rfl,?_⟩⟩
   rw [show IntKind.wrap .i64 ((r.stack.n : Int) - 1) = ((r.stack.n - 1 : Nat) : Int) by rw [wrap_id (by omega) (by omega)]; omega]
   have hcap := hfr.stack.cap
   refine chk_of (by simp; omega) ?_
   refine (hfr.stack).idx1 (w := dr w n) (i := r.stack.n - 1) (getD_some (d := 0) (by omega)) ?_; intro g o _ hcell
   refine ⟨_,hcell,?_⟩
   refine chk_of (by simp; omega) ⟨_,_,_,hc _ rfl,chk_of (by simp; omega) (chk_of (by simp; omega) ?_)⟩
   refine stores_i (w := (dr w n).drew) hp.bk (by rw [pc_len hp.lenR hp.lenU]; simp; omega) ?_; intro w1 hB1 hF1 hz1
   have hcut := hfr.stack.cut (lo := 0) (hi := r.stack.n - 1) (mx := r.stack.c) (by omega) (by omega) (by omega) (by omega)
   have hl : (x.stack.drop 0).take (r.stack.n - 1 - 0) = x.stack.dropLast := by
    rw [List.drop_zero,Nat.sub_zero,List.dropLast_eq_take,hln]
   rw [hl] at hcut
   have e1 : Int.toNat ((k : Nat) : Int) = k := rfl
   rw [e1,pc_sets (r' := { r with stack := ⟨cutAt r.stack.p r.stack.c 0 1,r.stack.n - 1 - 0,r.stack.c - 0⟩ }) hR (by simp) rfl] at hB1
   refine ⟨trivial,_,true,rfl,?_,hF1.mono fun y _ hy => by rw [hy]; exact hp.okb⟩
   rw [pPop,if_pos hi,hx]
   refine PoolC.mk' (hp.upd (t := 2 * k + 2) (x' := { x with stack := x.stack.dropLast }) hk hp.lenU hF1 (.inr rfl) (fun y _ _ e => .inl (by rw [e]; exact hp.kb)) hB1 ?_)
   refine ⟨hfr.method,hfr.pc,hfr.sender,hfr.home,hfr.serial,hfr.self,?_,?_,hfr.sm.1,by simp; omega⟩
   ·exact hfr.slots.fr hF1 (fun y _ h e => by have := h.2; have := hp.kb; subst e; omega) (fun y hy h => ⟨.inl h.1,by rw [ret_lt hy]; exact h.2⟩)
   ·exact hcut.fr hF1 (fun y _ h e => by have := h.2; have := hp.kb; subst e; omega) (fun y hy h => ⟨.inl h.1,by rw [ret_lt hy]; exact h.2⟩)
theorem PoolC.usedSl {h : Hp} {R : List RFrame} {κ : Nat -> Nat} (hp : PoolC h ok b σ R κ) : Sl h (fun y => y = b) eBool (some ⟨b,192,none⟩) 24 24 σ.used :=
 ⟨hp.lenU,Nat.le_refl _,(by intro h; cases h),fun _ => ⟨b,recs eFrame R,[.int .i64 σ.serial],by rw [pc_hl hp.lenR],rfl,by simp,by rw [recs_bool]; exact hp.bk⟩,by omega⟩
theorem indexB_lt {v : Bool} : ∀ {l : List Bool},0 <= indexB v l -> indexB v l < l.length
 | [],h => by simp [indexB] at h
 | x :: l,h => by
  have ih := indexB_lt (v := v) (l := l)
  unfold indexB at h ⊢
  split
  ·simp
  ·rename_i h1
   rw [if_neg h1] at h
   split at h
   ·omega
   ·rename_i h2
    rw [if_neg h2]
    simp; omega
theorem frame_Take_ok (hp : IsPool w.heap ok b σ) {o2 : Nat -> Prop} {p2 : Option Addr} {n2 c2 : Nat} {slots : List Int} (hs : Sl w.heap o2 eU32 p2 n2 c2 slots) (hd : ∀ y,y < w.heap.size -> o2 y -> ¬ ok y) (method self sender home : Int) :
  Calls P F.Z1m #[.pointer (some ⟨b,0,none⟩),.int .i64 method,.int .u32 self,.slice p2 n2 c2,.int .i64 sender,.int .i64 home] w (PoolTo ok b (.int .i64 (pTake σ method self slots sender home).1) (pTake σ method self slots sender home).2 w) := by
 obtain ⟨R,κ,hp⟩ := hp
 refine oZ1m ?_
 unfold vZ1m
 simp only [join_eq]
 refine (slices_Index_bool_bool_ok hp.usedSl false).mono ?_; rintro _ _ ⟨rfl,n,rfl⟩
 refine ⟨_,rfl,?_⟩
 have hsl := hs.len
 obtain ⟨i,hi⟩ : ∃ i,i = indexB false σ.used := ⟨_,rfl⟩
 have hilt := indexB_lt (v := false) (l := σ.used)
 rw [hp.lenU,<- hi] at hilt
 unfold pTake
 rw [<- hi]
 refine br_of (fun h1 => ?_) (fun h1 => ?_) <;> simp only [ZJ,ZK,ZL,ZM,ZN,ZO,ZP,ZQ,ZR] at h1
 ·simp only [h1,true_or,if_true]
  exact ⟨rfl,hp.same,Fr.refl _ _⟩
 refine br_of (fun h2 => ?_) (fun h2 => ?_) <;> simp only [ZJ,ZK,ZL,ZM,ZN,ZO,ZP,ZQ,ZR] at h2
 ·simp only [show 8 < slots.length by omega,or_true,if_true]
  exact ⟨rfl,hp.same,Fr.refl _ _⟩
 rw [if_neg (by omega)]
 clear hi
 obtain ⟨k,rfl⟩ := Int.eq_ofNat_of_zero_le h1
 have hk : k < 24 := by have := hilt h1; omega
 have hR : R[k]? = some (R[k]'(by rw [hp.lenR]; exact hk)) := List.getElem?_eq_getElem _
 generalize R[k]'(by rw [hp.lenR]; exact hk) = r at hR
 refine br_of (fun h3 => ?_) (fun h3 => ?_) <;> simp only [ZJ,ZK,ZL,ZM,ZN,ZO,ZP,ZQ,ZR] at h3
 ·rw [if_pos h3]
  refine ⟨_,by rw [dr_cell,hp.bk.cell,pc_serial hp.lenR hp.lenU],?_⟩
  refine stores_i (w := dr w n) hp.bk (by rw [pc_len hp.lenR hp.lenU]; simp) ?_; intro w1 hB1 hF1 hz1
  rw [pc_setS hp.lenR hp.lenU] at hB1
  refine chk_of (by simp; omega) ?_
  refine stores_i hB1 (by rw [pc_len hp.lenR hp.lenU]; simp; omega) ?_; intro w2 hB2 hF2 hz2
  rw [Int.toNat_natCast,pc_setU hp.lenR (by rw [hp.lenU]; exact hk)] at hB2
  have hU2 : (σ.used.set k true).length = 24 := by simp [hp.lenU]
  refine ⟨_,by rw [World.cell?_drew,hB2.cell,pc_serial hp.lenR hU2],?_⟩
  have hF12 : Fr (fun y => y = b) w.heap w2.heap := Fr.trans' hF1 hF2
  have hz : w2.heap.size = w.heap.size := hz2.trans hz1
  refine (slices_Clone_uint32_uint32_ok (w := w2.drew) (hs.fr hF12 (fun y hy ho e => hd y hy ho (by rw [e]; exact hp.okb)) (fun _ _ h => h)) (by omega)).mono ?_
  rintro _ w6 ⟨q,d,rfl,hq,hN6⟩
  replace hN6 : Nw w2.heap w6.heap := hN6
  have hB6 := hB2.nw hN6
  refine ⟨q,n2,d,rfl,⟨by rw [hB6.cell,pc_serial hp.lenR hU2],trivial⟩,chk_of (by simp; omega) ?_⟩
  refine stores_i hB6 (by rw [pc_len hp.lenR hU2]; simp; omega) ?_; intro w7 hB7 hF7 hz7
  have hF7' : Fr (fun y => y = b) w.heap w7.heap := (hF12.trans hN6.fr (fun _ _ h => h) (fun _ _ h => h)).trans hF7 (fun _ _ h => h) (fun _ _ h => h)
  have e1 : Int.toNat ((k : Nat) : Int) = k := rfl
  rw [show 0 + Int.toNat ((k : Nat) : Int) * 8 = 0 + k * 8 + 0 by omega,pc_sets (r' := ⟨method,0,sender,(k:Int),IntKind.wrap .i64 (σ.serial + 1),self,⟨q,n2,d⟩,⟨none,0,0⟩⟩) hR (by simp) rfl] at hB7
  refine ⟨trivial,rfl,?_,hF7'.mono fun y _ hy => by rw [hy]; exact hp.okb⟩
  refine PoolC.mk' (hp.upd (t := 2 * k + 1) hk hU2 hF7' (.inl rfl) (fun y _ _ e => .inl (by rw [e]; exact hp.kb)) hB7 ?_)
  refine ⟨rfl,rfl,rfl,rfl,rfl,rfl,?_,Sl.nil,by show slots.length <= 8; omega,by simp⟩
  refine hq.fr hF7 (fun y _ h e => ?_) (fun y _ h => ?_)
  ·have := hp.bk.lt; have : w2.heap.size <= y := h; subst e; omega
  ·have : w2.heap.size <= y := h; exact ⟨.inr (by omega),by rw [ret_ge (by omega)]⟩
 ·rw [if_neg h3]
  refine ⟨_,by rw [dr_cell,hp.bk.cell,pc_serial hp.lenR hp.lenU],?_⟩
  refine stores_i (w := dr w n) hp.bk (by rw [pc_len hp.lenR hp.lenU]; simp) ?_; intro w1 hB1 hF1 hz1
  rw [pc_setS hp.lenR hp.lenU] at hB1
  refine chk_of (by simp; omega) ?_
  refine stores_i hB1 (by rw [pc_len hp.lenR hp.lenU]; simp; omega) ?_; intro w2 hB2 hF2 hz2
  rw [Int.toNat_natCast,pc_setU hp.lenR (by rw [hp.lenU]; exact hk)] at hB2
  have hU2 : (σ.used.set k true).length = 24 := by simp [hp.lenU]
  refine ⟨_,by rw [World.cell?_drew,hB2.cell,pc_serial hp.lenR hU2],?_⟩
  have hF12 : Fr (fun y => y = b) w.heap w2.heap := Fr.trans' hF1 hF2
  have hz : w2.heap.size = w.heap.size := hz2.trans hz1
  refine (slices_Clone_uint32_uint32_ok (w := w2.drew) (hs.fr hF12 (fun y hy ho e => hd y hy ho (by rw [e]; exact hp.okb)) (fun _ _ h => h)) (by omega)).mono ?_
  rintro _ w6 ⟨q,d,rfl,hq,hN6⟩
  replace hN6 : Nw w2.heap w6.heap := hN6
  have hB6 := hB2.nw hN6
  refine ⟨q,n2,d,rfl,⟨by rw [hB6.cell,pc_serial hp.lenR hU2],trivial⟩,chk_of (by simp; omega) ?_⟩
  refine stores_i hB6 (by rw [pc_len hp.lenR hU2]; simp; omega) ?_; intro w7 hB7 hF7 hz7
  have hF7' : Fr (fun y => y = b) w.heap w7.heap := (hF12.trans hN6.fr (fun _ _ h => h) (fun _ _ h => h)).trans hF7 (fun _ _ h => h) (fun _ _ h => h)
  have e1 : Int.toNat ((k : Nat) : Int) = k := rfl
  rw [show 0 + Int.toNat ((k : Nat) : Int) * 8 = 0 + k * 8 + 0 by omega,pc_sets (r' := ⟨method,0,sender,home,IntKind.wrap .i64 (σ.serial + 1),self,⟨q,n2,d⟩,⟨none,0,0⟩⟩) hR (by simp) rfl] at hB7
  refine ⟨trivial,rfl,?_,hF7'.mono fun y _ hy => by rw [hy]; exact hp.okb⟩
  refine PoolC.mk' (hp.upd (t := 2 * k + 1) hk hU2 hF7' (.inl rfl) (fun y _ _ e => .inl (by rw [e]; exact hp.kb)) hB7 ?_)
  refine ⟨rfl,rfl,rfl,rfl,rfl,rfl,?_,Sl.nil,by show slots.length <= 8; omega,by simp⟩
  refine hq.fr hF7 (fun y _ h e => ?_) (fun y _ h => ?_)
  ·have := hp.bk.lt; have : w2.heap.size <= y := h; subst e; omega
  ·have : w2.heap.size <= y := h; exact ⟨.inr (by omega),by rw [ret_ge (by omega)]⟩
theorem frame_Free_ok (hp : IsPool w.heap ok b σ) : Calls P F.Z3r #[.pointer (some ⟨b,0,none⟩)] w (Is (.int .i64 (pFree σ : Int)) w) := by
 obtain ⟨R,κ,hp⟩ := hp
 refine oZ3r ?_
 refine ⟨(σ.used.map Value.bool).toArray,holdsRow_i hp.bk (by rw [List.size_toArray,List.length_map,hp.lenU]) (fun j hj => ?_),?_⟩
 ·have h1 : σ.used[j]? = some (σ.used.getD j false) := getD_some (by rw [hp.lenU]; exact hj)
  have := pc_used (R := R) (s := σ.serial) hp.lenR h1
  rw [Nat.mul_one] at this
  rw [this,List.getElem?_toArray,List.getElem?_map,h1]; rfl
 refine ⟨fun t w' => ∃ k : Nat,t.2 = (k : Int) /\ k <= 24 /\ t.1 = ((σ.used.take k).count false : Nat) /\ w = w',fun t _ => 24 - t.2.toNat,⟨0,rfl,by omega,rfl,rfl⟩,?_⟩
 rintro ⟨m,t⟩ _ ⟨k,rfl,hk,rfl,rfl⟩
 have hle : (σ.used.take k).count false <= 24 := Nat.le_trans List.count_le_length (by simp; omega)
 refine br_of (fun h1 => ?_) (fun h1 => ?_) <;> simp only [ZJ,ZK,ZL,ZM,ZN,ZO,ZP,ZQ,ZR] at h1
 ·refine chk_of (by simp; omega) ?_
  have hk' : k < σ.used.length := by rw [hp.lenU]; omega
  refine ⟨σ.used[k],by simp [hk'],?_⟩
  have e : (σ.used.take (k + 1)).count false = (σ.used.take k).count false + if σ.used[k] = false then 1 else 0 := by
   rw [List.take_succ_eq_append_getElem hk',List.count_append]; simp [List.count_cons]
  refine br_of (fun h2 => ?_) (fun h2 => ?_)
  ·rw [wrap_id (by omega) (by omega)]
   rw [wrap_id (by omega) (by omega)]
   exact ⟨⟨k + 1,rfl,by omega,by rw [e]; simp at h2; simp [h2],rfl⟩,by (first | omega | (dsimp only; omega))⟩
  ·rw [wrap_id (by omega) (by omega)]
   exact ⟨⟨k + 1,rfl,by omega,by rw [e]; simp at h2; simp [h2],rfl⟩,by (first | omega | (dsimp only; omega))⟩
 ·rw [List.take_of_length_le (by rw [hp.lenU]; omega)]
  exact Is.mk _ _
def AtTo (x : TFrame) (t : Bool) (w : World) : Ending -> World -> Prop := fun en w' => ∃ r : RFrame,en = .returned (.tuple #[.agg #[.int .i64 r.method,.int .i64 r.pc,.int .i64 r.sender,.int .i64 r.home,.int .i64 r.serial,.int .u32 r.self,.slice r.slots.p r.slots.n r.slots.c,.slice r.stack.p r.stack.n r.stack.c],.bool t]) /\ IsFrame w'.heap (Fresh w.heap) (Fresh w.heap) r x /\ Nw w.heap w'.heap
theorem frame_At_ok (hp : IsPool w.heap ok b σ) (i : Int) : Calls P F.Zs #[.pointer (some ⟨b,0,none⟩),.int .i64 i] w (AtTo (pAt σ i).1 (pAt σ i).2 w) := by
 obtain ⟨R,κ,hp⟩ := hp
 refine oZs ?_
 refine newB_i ?_; intro b0 w1 b0_eq hB hN w1_sz; try simp only [drew_heap',dr_heap] at b0_eq hN
 replace hp := hp.nw hN
 refine (frame_is_ok ⟨R,κ,hp⟩ i).mono ?_; rintro _ _ ⟨rfl,n,rfl⟩
 refine ⟨_,rfl,?_⟩
 refine br_of (fun hi => ?_) (fun hi => ?_) <;> simp only [ZL,ZM] at hi
 ·simp only [pAt,hi,Bool.false_eq_true,if_false]
  refine stores_i (w := dr w1 n) hB (by simp) ?_; intro w2 hB2 hF2 hz2
  simp only [holds,Z1,Z2,Z3,Z4,Z5,Z6,Z7,Z8,Z9,ZA,ZB,ZC,ZD,ZE,ZF,ZG,true_and,and_true,ZS,ZT,exists_eq',and_assoc,wv_eq,dr_cell,ZU,join_eq,br_true,br_false,chk_true,decide_true,decide_false,Bool.not_true,Bool.not_false,Nat.zero_add,sets,ZH,ZI,onPtr_some,onIface_some,onFunc_some,nilVC_iface,hB2.cell]
  exact ⟨⟨0,0,0,0,0,0,⟨none,0,0⟩,⟨none,0,0⟩⟩,rfl,⟨rfl,rfl,rfl,rfl,rfl,rfl,Sl.nil,Sl.nil,by simp [pZero]⟩,hN.st hF2 (by omega)⟩
 ·obtain ⟨k,r,x,rfl,hk,hU,hR,hL,hx,hfr⟩ := hp.is hi
  simp only [pAt,hi,if_true,hx]
  refine chk_of (by simp; omega) ?_
  refine ⟨r.method,r.pc,r.sender,r.home,r.serial,r.self,r.slots.p,r.slots.n,r.slots.c,r.stack.p,r.stack.n,r.stack.c,?_,?_⟩
  ·refine holds_i (w := dr w1 n) hp.bk fun j hj => ?_
   rw [Int.toNat_natCast,pc_frame hR (by simpa using hj)]
  refine newB_i ?_; intro b1 w3 b1_eq hB3 hN3 w3_sz; try simp only [drew_heap',dr_heap] at b1_eq hN3
  refine stores_i hB3 (by simp [sets_length]) ?_; intro w4 hB4 hF4 w4_sz; try simp only [drew_heap',dr_heap] at w4_sz hF4
  have hN4 : Nw w1.heap w4.heap := hN3.st hF4 (by omega)
  have hs0 := hfr.slots.nw hN4; have hs1 := hfr.stack.nw hN4
  have hl0 := hs0.len; have hl1 := hs1.len; have hsm := hfr.sm
  refine ⟨r.slots.p,r.slots.n,r.slots.c,by rw [World.cell?_drew,hB4.cell]; rfl,r.stack.p,r.stack.n,r.stack.c,by rw [World.cell?_drew,hB4.cell]; rfl,?_⟩
  refine (slices_Clone_uint32_uint32_ok (w := w4.drew) hs0 (by omega)).mono ?_
  rintro _ w6 ⟨q,d,rfl,hq,hN6⟩
  replace hN6 : Nw w4.heap w6.heap := hN6
  replace hq : Sl w6.heap (Fresh w4.heap) eU32 q r.slots.n d x.slots := hq
  have hB6 := hB4.nw hN6
  refine ⟨q,_,d,rfl,⟨by rw [hB6.cell]; rfl,trivial⟩,?_⟩
  refine (slices_Clip_uint32_uint32_ok hq).mono ?_
  rintro _ w6 ⟨q1,rfl,rfl,hq1⟩
  refine ⟨q1,_,_,rfl,⟨by rw [hB6.cell]; rfl,trivial⟩,?_⟩
  refine (slices_Clone_uint32_uint32_ok (hs1.nw hN6) (by omega)).mono ?_
  rintro _ w8 ⟨q2,d2,rfl,hq2,hN8⟩
  refine ⟨q2,_,d2,rfl,trivial,?_⟩
  refine (slices_Clip_uint32_uint32_ok hq2).mono ?_
  rintro _ w8 ⟨q3,rfl,rfl,hq3⟩
  refine ⟨q3,_,_,rfl,trivial,?_⟩
  have hB8 := hB6.nw hN8
  refine stores_i hB8 (by simp [sets_length]) ?_; intro wA hBA hFA wA_sz; try simp only [drew_heap',dr_heap] at wA_sz hFA
  refine ⟨trivial,?_⟩
  refine stores_i hBA (by simp [sets_length]) ?_; intro wB hBB hFB wB_sz; try simp only [drew_heap',dr_heap] at wB_sz hFB
  refine ⟨trivial,?_⟩
  simp only [sets,ZH,ZI] at hBB
  simp only [holds,Z1,Z2,Z3,Z4,Z5,Z6,Z7,Z8,Z9,ZA,ZB,ZC,ZD,ZE,ZF,ZG,true_and,and_true,ZS,ZT,exists_eq',and_assoc,wv_eq,dr_cell,ZU,join_eq,br_true,br_false,chk_true,decide_true,decide_false,Bool.not_true,Bool.not_false,Nat.zero_add,sets,ZH,ZI,onPtr_some,onIface_some,onFunc_some,nilVC_iface,hBB.cell]
  have hBb : Bk wB.heap b0 _ := (((((hB.nw hN3).fr hF4 (by omega)).nw hN6).nw hN8).fr hFA (by omega)).fr hFB (by omega)
  refine stores_i hBb (by simp) ?_; intro wC hBC hFC hzC
  simp only [holds,Z1,Z2,Z3,Z4,Z5,Z6,Z7,Z8,Z9,ZA,ZB,ZC,ZD,ZE,ZF,ZG,true_and,and_true,ZS,ZT,exists_eq',and_assoc,wv_eq,dr_cell,ZU,join_eq,br_true,br_false,chk_true,decide_true,decide_false,Bool.not_true,Bool.not_false,Nat.zero_add,sets,ZH,ZI,onPtr_some,onIface_some,onFunc_some,nilVC_iface,hBC.cell]
  have hle4 := hN4.le; have hle6 := hN6.le; have hle := hN.le; have h1 := hB4.lt
  have f1 : Fr (fun y => y = b0 \/ y = b1) w8.heap wC.heap := (Fr.trans (T := fun y => y = b0 \/ y = b1) hFA hFB (fun _ _ h => .inr h) (fun _ _ h => .inr h)).trans hFC (fun _ _ h => h) (fun _ _ h => .inl h)
  refine ⟨⟨r.method,r.pc,r.sender,r.home,r.serial,r.self,⟨q1,_,_⟩,⟨q3,_,_⟩⟩,rfl,⟨hfr.method,hfr.pc,hfr.sender,hfr.home,hfr.serial,hfr.self,?_,?_,hsm⟩,?_⟩
  ·exact (hq1.nw hN8).fr f1 (fun y _ h e => by have : w4.heap.size <= y := h; rcases e with e | e <;> omega) (fun y _ h => by have : w4.heap.size <= y := h; show w.heap.size <= y; omega)
  ·exact hq3.fr f1 (fun y _ h e => by have : w6.heap.size <= y := h; rcases e with e | e <;> omega) (fun y _ h => by have : w6.heap.size <= y := h; show w.heap.size <= y; omega)
  ·exact (((hN.tr hN4).tr hN6).tr hN8).tr' f1 fun y h => by rcases h with h | h <;> omega
theorem rowOf_i {cs : Array Value} : ∀ {vs : List Value} {o : Nat},(∀ j,j < vs.length -> cs[o + j]? = vs[j]?) -> rowOf cs o vs
 | [],_,_ => trivial
 | [v],o,h => by show cs[o]? = some v; simpa using h 0 (by simp)
 | v :: u :: r,o,h => ⟨by simpa using h 0 (by simp),rowOf_i fun j hj => by have := h (j + 1) (by simpa using hj); rw [Nat.add_assoc,Nat.add_comm 1 j]; simpa using this⟩
theorem roots_app : ∀ (l l' : List TFrame) (u u' : List Bool),l.length = u.length -> pRootsFrom (l ++ l') (u ++ u') = pRootsFrom l u ++ pRootsFrom l' u'
 | [],_,[],_,_ => rfl
 | [],_,_ :: _,_,h => by simp at h
 | _ :: _,_,[],_,h => by simp at h
 | x :: l,l',y :: u,u',h => by
  simp only [List.cons_append,pRootsFrom]
  rw [roots_app l l' u u' (by simpa using h),List.append_assoc]
theorem frame_Roots_ok (hp : IsPool w.heap ok b σ) : Calls P F.Zy #[.pointer (some ⟨b,0,none⟩)] w fun en w' => ∃ n,NewSl eU32 (pRoots σ) n w en w' := by
 obtain ⟨R,κ,hp⟩ := hp
 refine oZy ?_
 refine ⟨(recs eFrame R).toArray,holdsRow_i hp.bk (by rw [List.size_toArray,pc_hl hp.lenR]) (fun j hj => ?_),?_⟩
 ·rw [pcells,List.append_assoc,Nat.zero_add,List.getElem?_append_left (by rw [pc_hl hp.lenR]; exact hj),List.getElem?_toArray]
 refine ⟨fun t w' => ∃ k : Nat,t.2 = (k : Int) /\ k <= 24 /\ Sl w'.heap (Fresh w.heap) eU32 t.1.1 t.1.2.1 t.1.2.2 (pRootsFrom (σ.l.take k) (σ.used.take k)) /\ t.1.2.1 <= 17 * k /\ Nw w.heap w'.heap,fun t _ => 24 - t.2.toNat,⟨0,rfl,by omega,Sl.nil,Nat.le_refl _,Nw.rfl'⟩,?_⟩
 rintro ⟨⟨q,m,d⟩,t⟩ w1 ⟨k,rfl,hk,hs,hm,hN⟩
 simp only at hs hm
 refine br_of (fun h1 => ?_) (fun h1 => ?_) <;> simp only [ZJ,ZK,ZL,ZM,ZN,ZO,ZP,ZQ,ZR] at h1
 ·have hk' : k < 24 := by omega
  refine chk_of (by simp; omega) ?_
  have hR : R[k]? = some (R[k]'(by rw [hp.lenR]; exact hk')) := List.getElem?_eq_getElem _
  have hL : σ.l[k]? = some (σ.l[k]'(by rw [hp.lenL]; exact hk')) := List.getElem?_eq_getElem _
  have hU : σ.used[k]? = some (σ.used[k]'(by rw [hp.lenU]; exact hk')) := List.getElem?_eq_getElem _
  generalize R[k]'(by rw [hp.lenR]; exact hk') = r at hR
  generalize σ.l[k]'(by rw [hp.lenL]; exact hk') = x at hL
  generalize σ.used[k]'(by rw [hp.lenU]; exact hk') = y at hU
  have hfr := hp.frs k r x hR hL
  refine ⟨r.method,r.pc,r.sender,r.home,r.serial,r.self,r.slots.p,r.slots.n,r.slots.c,r.stack.p,r.stack.n,r.stack.c,?_,?_⟩
  ·refine rowOf_i fun j hj => ?_
   rw [List.getElem?_toArray,Int.toNat_natCast]
   exact recs_get hR (by simpa using hj)
  refine newB_i ?_; intro b1 w2 b1_eq hB hN2 w2_sz; try simp only [drew_heap',dr_heap] at b1_eq hN2
  refine stores_i hB (by simp [sets_length]) ?_; intro w3 hB3 hF3 w3_sz; try simp only [drew_heap',dr_heap] at w3_sz hF3
  have hN3 : Nw w1.heap w3.heap := hN2.st hF3 (by omega)
  have hN03 := hN.tr hN3
  refine chk_of (by simp; omega) ?_
  refine ⟨y,by rw [(hp.bk.nw hN03).cell,Int.toNat_natCast,pc_used hp.lenR hU],?_⟩
  have e : pRootsFrom (σ.l.take (k + 1)) (σ.used.take (k + 1)) = pRootsFrom (σ.l.take k) (σ.used.take k) ++ (if y then x.self :: (x.slots ++ x.stack) else []) := by
   obtain ⟨h1,rfl⟩ := List.getElem?_eq_some_iff.1 hL
   obtain ⟨h2,rfl⟩ := List.getElem?_eq_some_iff.1 hU
   rw [List.take_succ_eq_append_getElem h1,List.take_succ_eq_append_getElem h2,roots_app _ _ _ _ (by simp [hp.lenL,hp.lenU])]
   simp [pRootsFrom]
  have hsm := hfr.sm; have hl0 := hfr.slots.len; have hl1 := hfr.stack.len
  refine br_of (fun h2 => ?_) (fun h2 => ?_)
  ·simp only [wv_eq]
   refine ⟨r.self,by rw [World.cell?_drew,hB3.cell]; rfl,r.slots.p,r.slots.n,r.slots.c,by rw [World.cell?_drew,hB3.cell]; rfl,r.stack.p,r.stack.n,r.stack.c,by rw [World.cell?_drew,hB3.cell]; rfl,?_⟩
   refine newB_i ?_; intro b2 w4 b2_eq hB4 hN4 w4_sz; try simp only [drew_heap',dr_heap] at b2_eq hN4
   have hN04 := hN03.tr hN4
   have hB34 := hB3.nw hN4
   refine ⟨⟨by rw [hB34.cell]; rfl,by rw [hB34.cell]; rfl,trivial⟩,?_⟩
   have hs1 : Sl w4.heap (fun y => y = b2) eU32 (some ⟨b2,0,none⟩) 1 1 [r.self] := (Sl.of_blk (l := [r.self]) (E := eU32) hB4 rfl rfl (by simp)).mono fun _ _ h => h.symm
   have hsA : Sl w1.heap (fun b => Fresh w.heap b /\ b < w1.heap.size) eU32 q m d (pRootsFrom (σ.l.take k) (σ.used.take k)) := hs.mono fun _ hy h => ⟨h,hy⟩
   refine append_r ty_u32 (hsA.nw (hN3.tr hN4)) hs1 (by omega) ?_
   intro q5 d5 w5 h5 hF5
   have hN05 := hN04.tr' hF5 fun y h => h.1
   have hB35 := hB34.fr hF5 (fun h => by have := h.2; omega)
   refine ⟨⟨by rw [hB35.cell]; rfl,by rw [hB35.cell]; rfl,trivial⟩,?_⟩
   refine append_r ty_u32 h5 (hfr.slots.nw hN05) (by omega) ?_
   intro q6 d6 w6 h6 hF6
   have hlt4 := hB34.lt; have hle3 := hN3.le; have hle1 := hN.le; have hle4 := hN4.le; have hle5 := hF5.le
   have hN06 := hN05.tr' hF6 fun y h => by rcases h with h | h; exact h.1; have := hN04.le; omega
   have hB36 := hB35.fr hF6 (fun h => by rcases h with h | h; (have := h.2; omega); omega)
   refine ⟨⟨by rw [hB36.cell]; rfl,trivial⟩,?_⟩
   refine append_r ty_u32 h6 (hfr.stack.nw hN06) (by omega) ?_
   intro q7 d7 w7 h7 hF7
   have hN07 := hN06.tr' hF7 fun y h => by rcases h with h | h; (rcases h with h | h; exact h.1; have := hN04.le; omega); have := hN05.le; omega
   rw [wrap_id (by omega) (by omega)]
   refine ⟨trivial,⟨k + 1,rfl,by omega,?_,by show m + 1 + r.slots.n + r.stack.n <= 17 * (k + 1); omega,hN07⟩,by (first | omega | (dsimp only; omega))⟩
   rw [e,if_pos h2,show pRootsFrom (σ.l.take k) (σ.used.take k) ++ x.self :: (x.slots ++ x.stack) = pRootsFrom (σ.l.take k) (σ.used.take k) ++ [r.self] ++ x.slots ++ x.stack by rw [hfr.self]; simp]
   refine h7.mono fun y _ h => ?_
   have := hN04.le; have := hN05.le; have := hN06.le
   rcases h with (h | h) | h
   ·rcases h with h | h
    ·exact h.1
    ·show w.heap.size <= y; omega
   ·show w.heap.size <= y; omega
   ·show w.heap.size <= y; omega
  ·rw [wrap_id (by omega) (by omega)]
   refine ⟨⟨k + 1,rfl,by omega,?_,by show m <= 17 * (k + 1); omega,hN03⟩,by (first | omega | (dsimp only; omega))⟩
   rw [e,if_neg (by rw [h2]; simp),List.append_nil]
   exact hs.nw hN3
 ·obtain rfl : k = 24 := by omega
  refine (slices_Clip_uint32_uint32_ok hs).mono ?_
  rintro _ w1 ⟨q1,rfl,rfl,hq1⟩
  refine ⟨q1,_,_,rfl,_,q1,_,rfl,?_,hN⟩
  rw [List.take_of_length_le (by rw [hp.lenL]; omega),List.take_of_length_le (by rw [hp.lenU]; omega)] at hq1
  exact hq1
end
end
end Go.Proofs.YtbedadcbbnmpkaaGreatDoor
