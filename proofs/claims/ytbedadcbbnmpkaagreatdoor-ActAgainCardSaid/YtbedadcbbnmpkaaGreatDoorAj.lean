/- Part 10 of what the proof rests on: SpAct8, SpAct9, SpAct10, SpNew, SpNew2, WfQueue, WfPool, WfFind, WfPc, SpGood, SpZone. No condition. -/
import Derived.Test.YtbedadcbbnmpkaaGreatDoorAi
set_option linter.unusedSimpArgs false
set_option linter.unusedVariables false
namespace Go.Proofs.YtbedadcbbnmpkaaGreatDoor
open Go Vc
section
section
variable {α : Type} (O : StoreOps α)
def dSendTo (σ : TM α) (δ : TD) (n : Nat) (cls sel : Int) : Int × TM α :=
 let f := mFind σ cls sel
 if f.1 < 0 then (4,f.2) else if pFree f.2.pool = 0 then (5,f.2)
 else
  let t := mTake (dDrop f.2 δ (n + 1)) f.1 (dUnder δ n) (δ.x.stack.drop (δ.x.stack.length - n)) δ.f (-1) 0
  (0,{ t.2 with top := t.2.top.set δ.p.toNat t.1 })
def dSend (σ : TM α) (δ : TD) (op : Int) : Int × TM α :=
 let n := (mArgs σ.u δ.x.method δ.arg).1
 let sel := (mArgs σ.u δ.x.method δ.arg).2
 if (δ.x.stack.length : Int) < n + 1 then (1,σ)
 else if op = 13 then (if (dFrom σ δ).2 = 0 then dSendTo σ δ n.toNat (dFrom σ δ).1 sel else ((dFrom σ δ).2,σ))
 else dSendTo (mClass O σ (dUnder δ n.toNat)).2 δ n.toNat (mClass O σ (dUnder δ n.toNat)).1 sel
end
theorem mClass_same {α : Type} (O : StoreOps α) (σ : TM α) (w : Int) : (mClass O σ w).2 = { σ with s := (mClass O σ w).2.s } := by
 have h := mObject_u O σ w
 unfold mClass mCls
 split
 ·simp only; rw [h]
 ·exact h
theorem mFindIn_same {α : Type} (c sel : Int) : ∀ (l : List Int) (σ : TM α),(mFindIn c sel σ l).2 = { σ with cache := (mFindIn c sel σ l).2.cache,looks := (mFindIn c sel σ l).2.looks }
 | [],σ => rfl
 | i :: l,σ => by
  unfold mFindIn
  split
  ·rfl
  ·rw [mFindIn_same c sel l]
theorem mFind_same {α : Type} (σ : TM α) (c sel : Int) : (mFind σ c sel).2 = { σ with cache := (mFind σ c sel).2.cache,looks := (mFind σ c sel).2.looks,why := (mFind σ c sel).2.why } := by
 unfold mFind
 split
 ·rfl
 ·split
  ·rfl
  ·rw [mFindIn_same]
section
variable {α : Type} {O : StoreOps α} {I : Hp -> (Nat -> Prop) -> Value -> α -> Prop} {OK : Nat -> Prop} {n0 : Nat} {m : Nat} {K : MK} {D : DK} {σ : TM α} {δ : TD} {w : World}
theorem act_send_ok (hc : CT O I OK n0 w.heap m K D σ δ) (hg : UGood σ.u) (hd : σ.dicts.length = σ.u.classes.length) (hL : σ.pool.used.length = 24) (hp : 0 <= δ.p /\ δ.p < 6) (hf : 0 <= δ.f /\ δ.f < 24) (op : Int)
  (hi : 0 <= δ.x.method /\ δ.x.method < σ.u.methods.length) (hl : 0 <= δ.arg /\ δ.arg < (σ.meth δ.x.method).lits.length) (hs : ((σ.meth δ.x.method).lits.getD δ.arg.toNat default).kind = 5)
  (hn : 0 <= (mArgs σ.u δ.x.method δ.arg).1 /\ (mArgs σ.u δ.x.method δ.arg).1 <= 900)
  (hF : ∀ (s : α) (c : Int),0 <= (mFind { σ with s := s } c (mArgs σ.u δ.x.method δ.arg).2).1 -> (mFind { σ with s := s } c (mArgs σ.u δ.x.method δ.arg).2).1 < σ.u.methods.length) :
  Calls P F.Z30 #[.pointer (some ⟨D.d,0,none⟩),.int .i64 op] w (DTo O I OK n0 m K D δ (.int .i64 (dSend O σ δ op).1) (dSend O σ δ op).2 w) := by
 refine oZ30 ?_
 unfold vZ30
 rw [wv_eq]
 have hFw : Fr OK w.heap w.drew.heap := Fr.refl _ _
 replace hc : CT O I OK n0 w.drew.heap m K D σ δ := hc
 generalize w.drew = wa at *
 refine ⟨_,hc.d0,_,hc.d3,_,hc.d11,?_⟩
 refine (act_args_ok hc.inv hg hi hl hs).mono ?_; rintro _ w1 ⟨rfl,hN1⟩
 have hc1 := hc.nw hN1
 have hFw1 := hFw.trans' hN1.ok
 refine ⟨_,_,rfl,trivial,?_⟩
 unfold dSend
 dsimp only
 obtain ⟨n,hne⟩ := Int.eq_ofNat_of_zero_le hn.1
 generalize (mArgs σ.u δ.x.method δ.arg).2 = sel at *
 rw [hne] at hn ⊢
 rw [wrap_id (by omega) (by omega)]
 refine (act_has_ok hc1 _).mono ?_; rintro _ _ ⟨rfl,n2,rfl⟩
 refine ⟨_,rfl,?_⟩
 by_cases h1 : (δ.x.stack.length : Int) < (n : Int) + 1
 ·rw [if_pos h1,show decide ((n : Int) + 1 <= (δ.x.stack.length : Int)) = false from decide_eq_false (by omega)]
  exact ⟨rfl,hc1,hFw1⟩
 rw [if_neg h1,show decide ((n : Int) + 1 <= (δ.x.stack.length : Int)) = true from decide_eq_true (by omega)]
 simp only [Bool.not_true,br_false,join_eq,Int.toNat_natCast]
 refine (act_under_ok (w := dr w1 n2) hc1 (n := n) (by omega)).mono ?_; rintro _ _ ⟨rfl,n3,rfl⟩
 refine ⟨_,rfl,?_⟩
 have hc3 : CT O I OK n0 (dr (dr w1 n2) n3).heap m K D σ δ := hc1
 have hFw3 : Fr OK w.heap (dr (dr w1 n2) n3).heap := hFw1
 generalize dr (dr w1 n2) n3 = w3 at *
 refine br_of (fun h13 => ?_) (fun h13 => ?_) <;> simp only [ZJ,ZK,ZL,ZM,ZN,ZO,ZP,ZQ,ZR] at h13
 ·rw [if_pos h13]
  refine (act_from_ok hc3 hf).mono ?_; rintro _ w4 ⟨rfl,hN4⟩
  have hcS := hc3.nw hN4
  have hFwS := hFw3.trans' hN4.ok
  refine ⟨_,_,rfl,?_⟩
  refine br_of (fun h0 => ?_) (fun h0 => ?_) <;> simp only [ZL,ZM,ZJ,ZK] at h0
  ·rw [if_neg h0]; exact ⟨rfl,hcS,hFwS⟩
  rw [if_pos h0]
  have hfind : 0 <= (mFind σ (dFrom σ δ).1 sel).1 -> (mFind σ (dFrom σ δ).1 sel).1 < σ.u.methods.length := hF σ.s (dFrom σ δ).1
  have hdS := hd; have huS : σ.u = σ.u := rfl; have hpS : σ.pool = σ.pool := rfl
  obtain ⟨FS,hFS⟩ : ∃ F,F = mFind σ (dFrom σ δ).1 sel := ⟨_,rfl⟩
  have hsame := mFind_same σ (dFrom σ δ).1 sel
  refine ⟨_,hcS.d0,?_⟩
  refine (act_find_ok hcS.inv hdS (dFrom σ δ).1 sel).mono ?_; rintro _ w5 ⟨rfl,hM5,hF5⟩
  have hc5 := hcS.to hM5 hF5
  have hFw5 := hFwS.trans' hF5
  refine ⟨_,rfl,?_⟩
  unfold dSendTo
  dsimp only
  rw [<- hFS] at hsame hc5 ⊢
  have hFu : FS.2.u = σ.u := (congrArg TM.u hsame).trans huS
  have hFp : FS.2.pool = σ.pool := (congrArg TM.pool hsame).trans hpS
  have hrange := hfind
  rw [<- hFS] at hrange
  refine br_of (fun h5 => ?_) (fun h5 => ?_) <;> simp only [ZJ,ZK,ZL,ZM,ZN,ZO,ZP,ZQ,ZR] at h5
  ·rw [if_pos h5]; exact ⟨rfl,hc5,hFw5⟩
  rw [if_neg (show ¬ FS.1 < 0 by omega)]
  refine ⟨_,hc5.d0,?_⟩
  rw [onPtr_some]
  refine ⟨_,hc5.inv.c6,?_⟩
  obtain ⟨o,ho,hP,_⟩ := hc5.inv.pool
  refine (frame_Free_ok hP).mono ?_; rintro _ _ ⟨rfl,n6,rfl⟩
  refine ⟨_,rfl,?_⟩
  refine br_of (fun h6 => ?_) (fun h6 => ?_) <;> simp only [ZJ,ZK,ZL,ZM,ZN,ZO,ZP,ZQ,ZR] at h6
  ·rw [if_pos (by omega)]; exact ⟨rfl,hc5,hFw5⟩
  rw [if_neg (by omega)]
  rw [show (n : Int) + 1 = ((n + 1 : Nat) : Int) by omega]
  refine (act_drop_ok (w := dr w5 n6) hc5 (n + 1) (by omega)).mono ?_; rintro _ w7 ⟨rfl,hc7,hF7⟩
  have hFw7 := hFw5.trans' (h1 := w5.heap) hF7
  replace hc7 : CT O I OK n0 w7.drew.heap m K D (dDrop FS.2 δ (n + 1)) δ := hc7
  replace hFw7 : Fr OK w.heap w7.drew.heap := hFw7
  rw [wv_eq]
  refine ⟨rfl,?_⟩
  generalize w7.drew = w8 at *
  refine ⟨_,hc7.d0,_,hc7.d1,_,hc7.d0,_,_,_,hc7.d10,_,_,_,hc7.d10,?_⟩
  have hsl := hc7.dn.st
  have hln := hsl.len; have hcap := hsl.cap; have hs2 := hc7.dn.s2
  rw [show IntKind.wrap .i64 ((D.st.n : Int) - (n : Int)) = ((D.st.n - n : Nat) : Int) by rw [wrap_id (by omega) (by omega)]; omega]
  refine chk_of (by simp; omega) ⟨_,hc7.d2,?_⟩
  rw [onPtr_some]
  simp only [Int.toNat_natCast]
  have hcut := hsl.cut (lo := D.st.n - n) (hi := D.st.n) (mx := D.st.c) (by omega) (by omega) (by omega) (by omega)
  rw [List.take_of_length_le (by rw [List.length_drop]; omega),show D.st.n - n = δ.x.stack.length - n by omega] at hcut
  have hsh := (hg.meth (i := FS.1) ⟨by omega,hrange (by omega)⟩).sh
  have hmm : (dDrop FS.2 δ (n + 1)).meth FS.1 = σ.meth FS.1 := by unfold TM.meth dDrop; simp only; rw [hFu]
  rw [show D.st.n - n = δ.x.stack.length - n by omega]
  refine (act_take_ok hc7.inv hcut (by omega) (i := FS.1) ⟨by omega,by show FS.1 < (FS.2.u.methods.length : Int); rw [hFu]; exact hrange (by omega)⟩ ⟨by rw [hmm]; exact hsh.2.1,by rw [hmm]; omega⟩ _ _ _ _ (by show (pPops FS.2.pool δ.f (n + 1)).used.length = 24; rw [pPops_used,hFp]; exact hL)).mono ?_
  rintro _ w9 ⟨rfl,hM9,hF9⟩
  have hc9 := hc7.to hM9 hF9
  refine ⟨_,rfl,⟨hc9.d10,hc9.d10,hc9.d1,hc9.d0,trivial⟩,chk_of (by simp; omega) ?_⟩
  refine hc9.inv.stop (k := δ.p.toNat) (by omega) _ ?_; intro wa hMa hFa _ _
  exact ⟨trivial,rfl,hc9.to hMa hFa,(hFw7.trans' hF9).trans' hFa⟩
 ·rw [if_neg h13]
  refine ⟨_,hc3.d0,?_⟩
  refine (act_class_ok hc3.inv (dUnder δ n)).mono ?_; rintro _ w4 ⟨rfl,hM4,hF4⟩
  have hcS := hc3.to hM4 hF4
  have hFwS := hFw3.trans' hF4
  refine ⟨_,rfl,?_⟩
  simp only [decide_true,Bool.not_true,br_false]
  have hcs := mClass_same O σ (dUnder δ n)
  have hfind := hF (mClass O σ (dUnder δ n)).2.s (mClass O σ (dUnder δ n)).1
  rw [<- hcs] at hfind
  have hdS : (mClass O σ (dUnder δ n)).2.dicts.length = (mClass O σ (dUnder δ n)).2.u.classes.length := by rw [hcs]; exact hd
  have huS : (mClass O σ (dUnder δ n)).2.u = σ.u := by rw [hcs]
  have hpS : (mClass O σ (dUnder δ n)).2.pool = σ.pool := by rw [hcs]
  generalize mClass O σ (dUnder δ n) = C at *
  obtain ⟨FS,hFS⟩ : ∃ F,F = mFind C.2 C.1 sel := ⟨_,rfl⟩
  have hsame := mFind_same C.2 C.1 sel
  refine ⟨_,hcS.d0,?_⟩
  refine (act_find_ok hcS.inv hdS C.1 sel).mono ?_; rintro _ w5 ⟨rfl,hM5,hF5⟩
  have hc5 := hcS.to hM5 hF5
  have hFw5 := hFwS.trans' hF5
  refine ⟨_,rfl,?_⟩
  unfold dSendTo
  dsimp only
  rw [<- hFS] at hsame hc5 ⊢
  have hFu : FS.2.u = σ.u := (congrArg TM.u hsame).trans huS
  have hFp : FS.2.pool = σ.pool := (congrArg TM.pool hsame).trans hpS
  have hrange := hfind
  rw [<- hFS] at hrange
  refine br_of (fun h5 => ?_) (fun h5 => ?_) <;> simp only [ZJ,ZK,ZL,ZM,ZN,ZO,ZP,ZQ,ZR] at h5
  ·rw [if_pos h5]; exact ⟨rfl,hc5,hFw5⟩
  rw [if_neg (show ¬ FS.1 < 0 by omega)]
  refine ⟨_,hc5.d0,?_⟩
  rw [onPtr_some]
  refine ⟨_,hc5.inv.c6,?_⟩
  obtain ⟨o,ho,hP,_⟩ := hc5.inv.pool
  refine (frame_Free_ok hP).mono ?_; rintro _ _ ⟨rfl,n6,rfl⟩
  refine ⟨_,rfl,?_⟩
  refine br_of (fun h6 => ?_) (fun h6 => ?_) <;> simp only [ZJ,ZK,ZL,ZM,ZN,ZO,ZP,ZQ,ZR] at h6
  ·rw [if_pos (by omega)]; exact ⟨rfl,hc5,hFw5⟩
  rw [if_neg (by omega)]
  rw [show (n : Int) + 1 = ((n + 1 : Nat) : Int) by omega]
  refine (act_drop_ok (w := dr w5 n6) hc5 (n + 1) (by omega)).mono ?_; rintro _ w7 ⟨rfl,hc7,hF7⟩
  have hFw7 := hFw5.trans' (h1 := w5.heap) hF7
  replace hc7 : CT O I OK n0 w7.drew.heap m K D (dDrop FS.2 δ (n + 1)) δ := hc7
  replace hFw7 : Fr OK w.heap w7.drew.heap := hFw7
  rw [wv_eq]
  refine ⟨rfl,?_⟩
  generalize w7.drew = w8 at *
  refine ⟨_,hc7.d0,_,hc7.d1,_,hc7.d0,_,_,_,hc7.d10,_,_,_,hc7.d10,?_⟩
  have hsl := hc7.dn.st
  have hln := hsl.len; have hcap := hsl.cap; have hs2 := hc7.dn.s2
  rw [show IntKind.wrap .i64 ((D.st.n : Int) - (n : Int)) = ((D.st.n - n : Nat) : Int) by rw [wrap_id (by omega) (by omega)]; omega]
  refine chk_of (by simp; omega) ⟨_,hc7.d2,?_⟩
  rw [onPtr_some]
  simp only [Int.toNat_natCast]
  have hcut := hsl.cut (lo := D.st.n - n) (hi := D.st.n) (mx := D.st.c) (by omega) (by omega) (by omega) (by omega)
  rw [List.take_of_length_le (by rw [List.length_drop]; omega),show D.st.n - n = δ.x.stack.length - n by omega] at hcut
  have hsh := (hg.meth (i := FS.1) ⟨by omega,hrange (by omega)⟩).sh
  have hmm : (dDrop FS.2 δ (n + 1)).meth FS.1 = σ.meth FS.1 := by unfold TM.meth dDrop; simp only; rw [hFu]
  rw [show D.st.n - n = δ.x.stack.length - n by omega]
  refine (act_take_ok hc7.inv hcut (by omega) (i := FS.1) ⟨by omega,by show FS.1 < (FS.2.u.methods.length : Int); rw [hFu]; exact hrange (by omega)⟩ ⟨by rw [hmm]; exact hsh.2.1,by rw [hmm]; omega⟩ _ _ _ _ (by show (pPops FS.2.pool δ.f (n + 1)).used.length = 24; rw [pPops_used,hFp]; exact hL)).mono ?_
  rintro _ w9 ⟨rfl,hM9,hF9⟩
  have hc9 := hc7.to hM9 hF9
  refine ⟨_,rfl,⟨hc9.d10,hc9.d10,hc9.d1,hc9.d0,trivial⟩,chk_of (by simp; omega) ?_⟩
  refine hc9.inv.stop (k := δ.p.toNat) (by omega) _ ?_; intro wa hMa hFa _ _
  exact ⟨trivial,rfl,hc9.to hMa hFa,(hFw7.trans' hF9).trans' hFa⟩
end
section
variable {α : Type} (O : StoreOps α)
def dValue (σ : TM α) (δ : TD) (op : Int) : Int × TM α :=
 if op = 8 then (0,dDrop σ δ 1) else if op = 9 then dPush σ δ (dUnder δ 0) else if op = 17 then dIffalse σ δ
 else if op = 12 \/ op = 13 then dSend O σ δ op
 else if op = 14 then (0,dBack O { σ with pool := pGive σ.pool δ.f } δ δ.x.sender (dUnder δ 0))
 else if op = 19 then dHome O σ δ else (0,σ)
def dPrim (σ : TM α) (δ : TD) : Int × TM α :=
 if (δ.x.stack.length : Int) < cTakes δ.arg then (1,σ)
 else if cTakes δ.arg = 0 /\ ¬ δ.x.stack.length < 8 then (1,σ)
 else if δ.arg = 0 \/ δ.arg = 1 \/ δ.arg = 2 \/ δ.arg = 3 \/ δ.arg = 4 then dReckon σ δ
 else if δ.arg = 5 then (0,dAnswer σ δ 2 (dTruth (decide (dUnder δ 1 = dUnder δ 0))))
 else if δ.arg = 6 then (0,dAnswer (mClass O σ (dUnder δ 0)).2 δ 1 (wInt (mClass O σ (dUnder δ 0)).1).1)
 else if δ.arg = 7 \/ δ.arg = 8 \/ δ.arg = 9 then dFields O σ δ
 else if δ.arg = 10 then (0,mTell (mSaid O σ (dUnder δ 0)).2 1 δ.p (mSaid O σ (dUnder δ 0)).1)
 else if δ.arg = 11 then dCall O σ δ []
 else if δ.arg = 12 then dCall O σ δ (δ.x.stack.drop (δ.x.stack.length - 1))
 else if δ.arg = 13 then dFork O σ δ
 else if δ.arg = 14 \/ δ.arg = 17 \/ δ.arg = 21 \/ δ.arg = 23 then (0,dPlain σ δ)
 else if δ.arg = 15 \/ δ.arg = 16 \/ δ.arg = 18 \/ δ.arg = 22 then dNumbered O σ δ
 else if δ.arg = 19 then dCopy O σ δ else if δ.arg = 20 then dSwap O σ δ else (0,σ)
def dDo (σ : TM α) (δ : TD) (op : Int) : Int × TM α :=
 if op = 0 then dPush σ δ (δ.x.slots.getD δ.arg.toNat 0)
 else if op = 1 \/ op = 11 \/ op = 10 then dPlace O σ δ op
 else if op = 2 then dPush σ δ (wInt (σ.litN δ)).1
 else if op = 3 then dPush σ δ δ.x.self
 else if op = 4 then dPush σ δ 2 else if op = 5 then dPush σ δ 6 else if op = 6 then dPush σ δ 4
 else if op = 7 then dNumber σ δ
 else if op = 15 then (0,dJump σ δ)
 else if op = 16 then (0,dGoto σ δ (IntKind.wrap .i64 (δ.x.pc - IntKind.wrap .i64 (2 * δ.arg))))
 else if op = 20 \/ op = 18 then dMake O σ δ op
 else if op = 21 then dPrim O σ δ
 else if δ.x.stack.length < 1 then (1,σ) else dValue O σ δ op
structure Pre (σ : TM α) (δ : TD) (op : Int) : Prop where
 hg : UGood σ.u
 hq : QInv σ.queue
 hl : σ.events.length < 999980
 hz : O.size σ.s < 999990
 hL : σ.pool.used.length = 24
 hT : σ.top.length = 6
 hp : 0 <= δ.p /\ δ.p < 6
 hf : 0 <= δ.f /\ δ.f < 24
 hm : 0 <= δ.x.method /\ δ.x.method < σ.u.methods.length
 hd : σ.dicts.length = σ.u.classes.length
 hcp : -1000000 <= σ.copied.getD δ.f.toNat 0 /\ σ.copied.getD δ.f.toNat 0 <= 1000000
 chain : ∃ L,ChainOf σ.pool L δ.f /\ L.Nodup
 ha : 0 <= δ.arg
 i0 : op = 0 -> δ.arg < δ.x.slots.length
 i2 : op = 2 \/ op = 20 \/ op = 18 -> δ.arg < (σ.meth δ.x.method).lits.length
 i20 : op = 20 -> 0 <= σ.litN δ /\ σ.litN δ < σ.u.classes.length
 i12 : op = 12 \/ op = 13 -> δ.arg < (σ.meth δ.x.method).lits.length /\ ((σ.meth δ.x.method).lits.getD δ.arg.toNat default).kind = 5 /\ (0 <= (mArgs σ.u δ.x.method δ.arg).1 /\ (mArgs σ.u δ.x.method δ.arg).1 <= 900) /\
  ∀ (s : α) (c : Int),0 <= (mFind { σ with s := s } c (mArgs σ.u δ.x.method δ.arg).2).1 -> (mFind { σ with s := s } c (mArgs σ.u δ.x.method δ.arg).2).1 < σ.u.methods.length
 i21 : op = 21 -> 0 <= cTakes δ.arg
end
section
variable {α : Type} {O : StoreOps α} {I : Hp -> (Nat -> Prop) -> Value -> α -> Prop} {OK : Nat -> Prop} {n0 : Nat} {m : Nat} {K : MK} {D : DK} {σ : TM α} {δ : TD} {w : World}
theorem act_value_ok (hc : CT O I OK n0 w.heap m K D σ δ) {op : Int} (pr : Pre O σ δ op) (h1 : 0 < δ.x.stack.length) : Calls P F.Z1z #[.pointer (some ⟨D.d,0,none⟩),.int .i64 op] w (DTo O I OK n0 m K D δ (.int .i64 (dValue O σ δ op).1) (dValue O σ δ op).2 w) := by
 refine oZ1z ?_
 unfold vZ1z
 unfold dValue
 have hl := pr.hl
 obtain ⟨L,hL1,hL2⟩ := pr.chain
 refine br_of (fun h8 => ?_) (fun h8 => ?_) <;> simp only [ZJ,ZK,ZL,ZM,ZN,ZO,ZP,ZQ,ZR] at h8
 ·rw [if_pos h8]
  refine (act_drop_ok hc 1 (by omega)).mono ?_; rintro _ w2 ⟨rfl,hc2,hF2⟩
  exact ⟨rfl,rfl,hc2,hF2⟩
 rw [if_neg h8]
 refine br_of (fun h9 => ?_) (fun h9 => ?_) <;> simp only [ZJ,ZK,ZL,ZM,ZN,ZO,ZP,ZQ,ZR] at h9
 ·rw [if_pos h9]
  refine (act_under_ok hc (n := 0) h1).mono ?_; rintro _ _ ⟨rfl,n,rfl⟩
  refine ⟨_,rfl,?_⟩
  refine (act_push_ok (w := dr w n) hc _).mono ?_; rintro _ w2 ⟨rfl,hc2,hF2⟩
  exact ⟨_,rfl,rfl,hc2,hF2⟩
 rw [if_neg h9]
 refine br_of (fun h17 => ?_) (fun h17 => ?_) <;> simp only [ZJ,ZK,ZL,ZM,ZN,ZO,ZP,ZQ,ZR] at h17
 ·rw [if_pos h17]
  refine (act_iffalse_ok hc h1).mono ?_; rintro _ w2 ⟨rfl,hc2,hF2⟩
  exact ⟨_,rfl,rfl,hc2,hF2⟩
 rw [if_neg h17]
 simp only [join_eq,br_or]
 refine br_of (fun h12 => ?_) (fun h12 => ?_) <;> simp only [Bool.or_eq_true,Bool.or_eq_false_iff,ZJ,ZK,<- not_or] at h12
 ·rw [if_pos h12]
  obtain ⟨a1,a2,a3,a4⟩ := pr.i12 h12
  refine (act_send_ok hc pr.hg pr.hd pr.hL pr.hp pr.hf op pr.hm ⟨pr.ha,a1⟩ a2 a3 a4).mono ?_; rintro _ w2 ⟨rfl,hc2,hF2⟩
  exact ⟨_,rfl,rfl,hc2,hF2⟩
 rw [if_neg h12]
 refine br_of (fun h14 => ?_) (fun h14 => ?_) <;> simp only [ZJ,ZK,ZL,ZM,ZN,ZO,ZP,ZQ,ZR] at h14
 ·rw [if_pos h14]
  refine (act_under_ok hc (n := 0) h1).mono ?_; rintro _ _ ⟨rfl,n,rfl⟩
  refine ⟨_,rfl,?_⟩
  have hc0 : CT O I OK n0 (dr w n).drew.heap m K D σ δ := hc
  refine ⟨_,hc0.d0,?_⟩
  rw [onPtr_some]
  refine ⟨_,hc0.inv.c6,_,hc0.d2,?_⟩
  obtain ⟨o,ho,hP,back⟩ := hc0.inv.pool
  refine (frame_Give_ok hP δ.f).mono ?_; rintro _ w2 ⟨rfl,hP2,hF2⟩
  obtain ⟨hM2,hFo2⟩ := back _ _ hP2 hF2
  have hc2 := hc0.to hM2 hFo2
  refine ⟨_,rfl,⟨hc2.d0,trivial⟩,_,hc2.d5,?_⟩
  refine (act_back_ok hc2 pr.hq (by show σ.events.length < _; omega) pr.hp _ _).mono ?_; rintro _ w3 ⟨rfl,hc3,hF3⟩
  exact ⟨rfl,rfl,hc3,Fr.trans' (h := w.heap) hFo2 hF3⟩
 rw [if_neg h14]
 refine br_of (fun h19 => ?_) (fun h19 => ?_) <;> simp only [ZJ,ZK] at h19
 ·rw [if_pos h19]
  refine (act_home_ok hc pr.hf pr.hq (by omega) pr.hp h1 hL1 hL2).mono ?_; rintro _ w2 ⟨rfl,hc2,hF2⟩
  exact ⟨_,rfl,rfl,hc2,hF2⟩
 ·rw [if_neg h19]; exact ⟨rfl,hc,Fr.refl _ _⟩
theorem takes_case {p : Int} (h : 0 <= cTakes p) : (p = 14 \/ p = 17 \/ p = 21 \/ p = 23) /\ cTakes p = 0 \/ (p = 6 \/ p = 7 \/ p = 10 \/ p = 11 \/ p = 15 \/ p = 16 \/ p = 18 \/ p = 22) /\ cTakes p = 1 \/ (p = 0 \/ p = 1 \/ p = 2 \/ p = 3 \/ p = 4 \/ p = 5 \/ p = 8 \/ p = 12 \/ p = 13 \/ p = 20) /\ cTakes p = 2 \/ (p = 9 \/ p = 19) /\ cTakes p = 3 := by
 unfold cTakes at h ⊢
 split
 ·exact .inl ⟨by assumption,rfl⟩
 ·split
  ·exact .inr (.inl ⟨by assumption,rfl⟩)
  ·split
   ·exact .inr (.inr (.inl ⟨by assumption,rfl⟩))
   ·split
    ·exact .inr (.inr (.inr ⟨by assumption,rfl⟩))
    ·rename_i h1 h2 h3 h4
     rw [if_neg h1,if_neg h2,if_neg h3,if_neg h4] at h
     omega
theorem mSaid_ev (σ : TM α) (x : Int) : (mSaid O σ x).2.events = σ.events := by
 unfold mSaid mObject mCls
 repeat' (first | rfl | split)
theorem act_prim_ok (hc : CT O I OK n0 w.heap m K D σ δ) {op : Int} (pr : Pre O σ δ op) (h21 : op = 21) : Calls P F.Z1x #[.pointer (some ⟨D.d,0,none⟩)] w (DTo O I OK n0 m K D δ (.int .i64 (dPrim O σ δ).1) (dPrim O σ δ).2 w) := by
 refine oZ1x ?_
 unfold vZ1x
 unfold dPrim
 have hl := pr.hl; have hz := pr.hz
 have htk := takes_case (pr.i21 h21)
 refine ⟨_,hc.d11,?_⟩
 refine (code_Takes_ok δ.arg w).mono ?_; rintro _ _ ⟨rfl,n1,rfl⟩
 refine ⟨_,rfl,?_⟩
 rw [join_eq]
 refine (act_has_ok (w := dr w n1) hc _).mono ?_; rintro _ _ ⟨rfl,n2,rfl⟩
 refine ⟨_,rfl,?_⟩
 by_cases h1 : (δ.x.stack.length : Int) < cTakes δ.arg
 ·rw [if_pos h1,show decide (cTakes δ.arg <= (δ.x.stack.length : Int)) = false from decide_eq_false (by omega)]
  exact ⟨rfl,hc,Fr.refl _ _⟩
 rw [if_neg h1,show decide (cTakes δ.arg <= (δ.x.stack.length : Int)) = true from decide_eq_true (by omega)]
 simp only [Bool.not_true,br_false,join_eq,br_or]
 by_cases h0 : cTakes δ.arg = 0
 ·rw [decide_eq_true h0,br_true]
  refine (act_room_ok (w := dr (dr w n1) n2) hc).mono ?_; rintro _ _ ⟨rfl,n3,rfl⟩
  refine ⟨_,rfl,?_⟩
  by_cases h8 : δ.x.stack.length < 8
  case neg =>
   rw [if_pos ⟨h0,h8⟩,decide_eq_false h8]
   exact ⟨rfl,hc,Fr.refl _ _⟩
  rw [if_neg (fun h => h.2 h8),decide_eq_true h8]
  simp only [Bool.not_true,br_false]
  have hcA : CT O I OK n0 (dr (dr (dr w n1) n2) n3).heap m K D σ δ := hc
  have hFA : Fr OK w.heap (dr (dr (dr w n1) n2) n3).heap := Fr.refl _ _
  generalize dr (dr (dr w n1) n2) n3 = wa at *
  refine ⟨_,hcA.d11,?_⟩
  refine br_of (fun p0 => ?_) (fun p0 => ?_) <;> simp only [Bool.or_eq_true,Bool.or_eq_false_iff,ZJ,ZK,<- not_or] at p0
  ·rw [if_pos p0]
   refine (act_reckon_ok hcA (by omega)).mono ?_; rintro _ w2 ⟨rfl,hc2,hF2⟩
   exact ⟨_,rfl,rfl,hc2,hFA.trans' hF2⟩
  rw [if_neg p0]
  refine br_of (fun p5 => ?_) (fun p5 => ?_) <;> simp only [Bool.or_eq_true,Bool.or_eq_false_iff,ZJ,ZK,<- not_or] at p5
  ·rw [if_pos p5]
   refine (act_under_ok hcA (n := 1) (by omega)).mono ?_; rintro _ _ ⟨rfl,n5,rfl⟩
   refine ⟨_,rfl,?_⟩
   refine (act_under_ok (w := dr wa n5) hcA (n := 0) (by omega)).mono ?_; rintro _ _ ⟨rfl,n6,rfl⟩
   refine ⟨_,rfl,?_⟩
   refine (act_truth_ok _ _).mono ?_; rintro _ _ ⟨rfl,n7,rfl⟩
   refine ⟨_,rfl,?_⟩
   refine (act_answer_ok (w := dr (dr (dr wa n5) n6) n7) hcA 2 (by omega) _).mono ?_; rintro _ w2 ⟨rfl,hc2,hF2⟩
   exact ⟨_,rfl,rfl,hc2,hFA.trans' (h1 := wa.heap) hF2⟩
  rw [if_neg p5]
  refine br_of (fun p6 => ?_) (fun p6 => ?_) <;> simp only [Bool.or_eq_true,Bool.or_eq_false_iff,ZJ,ZK,<- not_or] at p6
  ·rw [if_pos p6]
   have hcB : CT O I OK n0 wa.drew.heap m K D σ δ := hcA
   refine ⟨_,hcB.d0,?_⟩
   refine (act_under_ok hcB (n := 0) (by omega)).mono ?_; rintro _ _ ⟨rfl,n6,rfl⟩
   have hcC : CT O I OK n0 (dr wa.drew n6).heap m K D σ δ := hcA
   refine ⟨_,rfl,⟨hcC.d0,trivial⟩,?_⟩
   refine (act_class_ok hcC.inv _).mono ?_; rintro _ w2 ⟨rfl,hM2,hF2⟩
   have hc2 := hcC.to hM2 hF2
   refine ⟨_,rfl,trivial,?_⟩
   refine (act_num_ok _ w2).mono ?_; rintro _ _ ⟨rfl,n7,rfl⟩
   refine ⟨_,rfl,trivial,?_⟩
   refine (act_answer_ok (w := dr w2 n7) hc2 1 (by omega) _).mono ?_; rintro _ w3 ⟨rfl,hc3,hF3⟩
   exact ⟨_,rfl,trivial,rfl,hc3,(hFA.trans' (h1 := wa.heap) hF2).trans' (h1 := w2.heap) hF3⟩
  rw [if_neg p6]
  refine br_of (fun p7 => ?_) (fun p7 => ?_) <;> simp only [Bool.or_eq_true,Bool.or_eq_false_iff,ZJ,ZK,<- not_or] at p7
  ·rw [if_pos p7]
   refine (act_fields_ok hcA p7 (by omega)).mono ?_; rintro _ w2 ⟨rfl,hc2,hF2⟩
   exact ⟨_,rfl,rfl,hc2,hFA.trans' hF2⟩
  rw [if_neg p7]
  refine br_of (fun p10 => ?_) (fun p10 => ?_) <;> simp only [Bool.or_eq_true,Bool.or_eq_false_iff,ZJ,ZK,<- not_or] at p10
  ·rw [if_pos p10]
   have hcB : CT O I OK n0 wa.drew.heap m K D σ δ := hcA
   refine ⟨_,hcB.d0,_,hcB.d1,_,hcB.d0,?_⟩
   refine (act_under_ok hcB (n := 0) (by omega)).mono ?_; rintro _ _ ⟨rfl,n6,rfl⟩
   have hcC : CT O I OK n0 (dr wa.drew n6).heap m K D σ δ := hcA
   refine ⟨_,rfl,⟨hcC.d0,hcC.d1,hcC.d0,trivial⟩,?_⟩
   refine (act_said_ok hcC.inv _).mono ?_; rintro _ w2 ⟨rfl,hM2,hF2⟩
   have hc2 := hcC.to hM2 hF2
   refine ⟨_,_,rfl,⟨hc2.d1,hc2.d0,trivial⟩,?_⟩
   refine (act_tell_ok hc2.inv (by rw [mSaid_ev]; omega) _ _ _).mono ?_; rintro _ w3 ⟨rfl,hM3,hF3⟩
   exact ⟨rfl,trivial,rfl,hc2.to hM3 hF3,(hFA.trans' (h1 := wa.heap) hF2).trans' hF3⟩
  rw [if_neg p10]
  refine br_of (fun p11 => ?_) (fun p11 => ?_) <;> simp only [Bool.or_eq_true,Bool.or_eq_false_iff,ZJ,ZK,<- not_or] at p11
  ·rw [if_pos p11]
   refine (act_call_ok hcA pr.hg (Sl.nil (ok := fun _ => False)) (fun _ _ h => h.elim) (by omega) pr.hL pr.hp).mono ?_; rintro _ w2 ⟨rfl,hc2,hF2⟩
   exact ⟨_,rfl,rfl,hc2,hFA.trans' hF2⟩
  rw [if_neg p11]
  refine br_of (fun p12 => ?_) (fun p12 => ?_) <;> simp only [Bool.or_eq_true,Bool.or_eq_false_iff,ZJ,ZK,<- not_or] at p12
  ·rw [if_pos p12]
   have hcB : CT O I OK n0 wa.drew.heap m K D σ δ := hcA
   refine ⟨_,_,_,hcB.d10,_,_,_,hcB.d10,?_⟩
   have hsl := hcB.dn.st
   have hln := hsl.len; have hcap := hsl.cap; have hs2 := hcB.dn.s2
   rw [show IntKind.wrap .i64 ((D.st.n : Int) - 1) = ((D.st.n - 1 : Nat) : Int) by rw [wrap_id (by omega) (by omega)]; omega]
   refine chk_of (by simp; omega) ?_
   simp only [Int.toNat_natCast]
   have hcut := hsl.cut (lo := D.st.n - 1) (hi := D.st.n) (mx := D.st.c) (by omega) (by omega) (by omega) (by omega)
   rw [List.take_of_length_le (by rw [List.length_drop]; omega)] at hcut
   rw [<- hln] at hcut ⊢
   refine (act_call_ok hcB pr.hg hcut (fun _ _ h => h) (by omega) pr.hL pr.hp).mono ?_; rintro _ w2 ⟨rfl,hc2,hF2⟩
   have hd10 := hc2.d10
   rw [<- hln] at hd10
   exact ⟨_,rfl,⟨hd10,hd10,trivial⟩,rfl,hc2,hFA.trans' (h1 := wa.heap) hF2⟩
  rw [if_neg p12]
  refine br_of (fun p13 => ?_) (fun p13 => ?_) <;> simp only [Bool.or_eq_true,Bool.or_eq_false_iff,ZJ,ZK,<- not_or] at p13
  ·rw [if_pos p13]
   refine (act_fork_ok hcA pr.hg (by omega) pr.hL pr.hq pr.hT).mono ?_; rintro _ w2 ⟨rfl,hc2,hF2⟩
   exact ⟨_,rfl,rfl,hc2,hFA.trans' hF2⟩
  rw [if_neg p13]
  refine br_of (fun p14 => ?_) (fun p14 => ?_) <;> simp only [Bool.or_eq_true,Bool.or_eq_false_iff,ZJ,ZK,<- not_or] at p14
  ·rw [if_pos p14]
   refine (act_plain_ok hcA pr.hq (by omega)).mono ?_; rintro _ w2 ⟨rfl,hc2,hF2⟩
   exact ⟨_,rfl,rfl,hc2,hFA.trans' hF2⟩
  rw [if_neg p14]
  refine br_of (fun p15 => ?_) (fun p15 => ?_) <;> simp only [Bool.or_eq_true,Bool.or_eq_false_iff,ZJ,ZK,<- not_or] at p15
  ·rw [if_pos p15]
   refine (act_numbered_ok hcA pr.hq (by omega) (by omega)).mono ?_; rintro _ w2 ⟨rfl,hc2,hF2⟩
   exact ⟨_,rfl,rfl,hc2,hFA.trans' hF2⟩
  rw [if_neg p15]
  refine br_of (fun p19 => ?_) (fun p19 => ?_) <;> simp only [Bool.or_eq_true,Bool.or_eq_false_iff,ZJ,ZK,<- not_or] at p19
  ·rw [if_pos p19]
   refine (act_copy_ok hcA (by omega) pr.hf pr.hcp).mono ?_; rintro _ w2 ⟨rfl,hc2,hF2⟩
   exact ⟨_,rfl,rfl,hc2,hFA.trans' hF2⟩
  rw [if_neg p19]
  refine br_of (fun p20 => ?_) (fun p20 => ?_) <;> simp only [Bool.or_eq_true,Bool.or_eq_false_iff,ZJ,ZK,<- not_or] at p20
  ·rw [if_pos p20]
   refine (act_swap_ok hcA (by omega)).mono ?_; rintro _ w2 ⟨rfl,hc2,hF2⟩
   exact ⟨_,rfl,rfl,hc2,hFA.trans' hF2⟩
  rw [if_neg p20]
  exact ⟨rfl,hcA,hFA⟩
 ·rw [decide_eq_false h0,br_false,if_neg (fun h => h0 h.1)]
  have hcA : CT O I OK n0 (dr (dr w n1) n2).heap m K D σ δ := hc
  have hFA : Fr OK w.heap (dr (dr w n1) n2).heap := Fr.refl _ _
  generalize dr (dr w n1) n2 = wa at *
  refine ⟨_,hcA.d11,?_⟩
  refine br_of (fun p0 => ?_) (fun p0 => ?_) <;> simp only [Bool.or_eq_true,Bool.or_eq_false_iff,ZJ,ZK,<- not_or] at p0
  ·rw [if_pos p0]
   refine (act_reckon_ok hcA (by omega)).mono ?_; rintro _ w2 ⟨rfl,hc2,hF2⟩
   exact ⟨_,rfl,rfl,hc2,hFA.trans' hF2⟩
  rw [if_neg p0]
  refine br_of (fun p5 => ?_) (fun p5 => ?_) <;> simp only [Bool.or_eq_true,Bool.or_eq_false_iff,ZJ,ZK,<- not_or] at p5
  ·rw [if_pos p5]
   refine (act_under_ok hcA (n := 1) (by omega)).mono ?_; rintro _ _ ⟨rfl,n5,rfl⟩
   refine ⟨_,rfl,?_⟩
   refine (act_under_ok (w := dr wa n5) hcA (n := 0) (by omega)).mono ?_; rintro _ _ ⟨rfl,n6,rfl⟩
   refine ⟨_,rfl,?_⟩
   refine (act_truth_ok _ _).mono ?_; rintro _ _ ⟨rfl,n7,rfl⟩
   refine ⟨_,rfl,?_⟩
   refine (act_answer_ok (w := dr (dr (dr wa n5) n6) n7) hcA 2 (by omega) _).mono ?_; rintro _ w2 ⟨rfl,hc2,hF2⟩
   exact ⟨_,rfl,rfl,hc2,hFA.trans' (h1 := wa.heap) hF2⟩
  rw [if_neg p5]
  refine br_of (fun p6 => ?_) (fun p6 => ?_) <;> simp only [Bool.or_eq_true,Bool.or_eq_false_iff,ZJ,ZK,<- not_or] at p6
  ·rw [if_pos p6]
   have hcB : CT O I OK n0 wa.drew.heap m K D σ δ := hcA
   refine ⟨_,hcB.d0,?_⟩
   refine (act_under_ok hcB (n := 0) (by omega)).mono ?_; rintro _ _ ⟨rfl,n6,rfl⟩
   have hcC : CT O I OK n0 (dr wa.drew n6).heap m K D σ δ := hcA
   refine ⟨_,rfl,⟨hcC.d0,trivial⟩,?_⟩
   refine (act_class_ok hcC.inv _).mono ?_; rintro _ w2 ⟨rfl,hM2,hF2⟩
   have hc2 := hcC.to hM2 hF2
   refine ⟨_,rfl,trivial,?_⟩
   refine (act_num_ok _ w2).mono ?_; rintro _ _ ⟨rfl,n7,rfl⟩
   refine ⟨_,rfl,trivial,?_⟩
   refine (act_answer_ok (w := dr w2 n7) hc2 1 (by omega) _).mono ?_; rintro _ w3 ⟨rfl,hc3,hF3⟩
   exact ⟨_,rfl,trivial,rfl,hc3,(hFA.trans' (h1 := wa.heap) hF2).trans' (h1 := w2.heap) hF3⟩
  rw [if_neg p6]
  refine br_of (fun p7 => ?_) (fun p7 => ?_) <;> simp only [Bool.or_eq_true,Bool.or_eq_false_iff,ZJ,ZK,<- not_or] at p7
  ·rw [if_pos p7]
   refine (act_fields_ok hcA p7 (by omega)).mono ?_; rintro _ w2 ⟨rfl,hc2,hF2⟩
   exact ⟨_,rfl,rfl,hc2,hFA.trans' hF2⟩
  rw [if_neg p7]
  refine br_of (fun p10 => ?_) (fun p10 => ?_) <;> simp only [Bool.or_eq_true,Bool.or_eq_false_iff,ZJ,ZK,<- not_or] at p10
  ·rw [if_pos p10]
   have hcB : CT O I OK n0 wa.drew.heap m K D σ δ := hcA
   refine ⟨_,hcB.d0,_,hcB.d1,_,hcB.d0,?_⟩
   refine (act_under_ok hcB (n := 0) (by omega)).mono ?_; rintro _ _ ⟨rfl,n6,rfl⟩
   have hcC : CT O I OK n0 (dr wa.drew n6).heap m K D σ δ := hcA
   refine ⟨_,rfl,⟨hcC.d0,hcC.d1,hcC.d0,trivial⟩,?_⟩
   refine (act_said_ok hcC.inv _).mono ?_; rintro _ w2 ⟨rfl,hM2,hF2⟩
   have hc2 := hcC.to hM2 hF2
   refine ⟨_,_,rfl,⟨hc2.d1,hc2.d0,trivial⟩,?_⟩
   refine (act_tell_ok hc2.inv (by rw [mSaid_ev]; omega) _ _ _).mono ?_; rintro _ w3 ⟨rfl,hM3,hF3⟩
   exact ⟨rfl,trivial,rfl,hc2.to hM3 hF3,(hFA.trans' (h1 := wa.heap) hF2).trans' hF3⟩
  rw [if_neg p10]
  refine br_of (fun p11 => ?_) (fun p11 => ?_) <;> simp only [Bool.or_eq_true,Bool.or_eq_false_iff,ZJ,ZK,<- not_or] at p11
  ·rw [if_pos p11]
   refine (act_call_ok hcA pr.hg (Sl.nil (ok := fun _ => False)) (fun _ _ h => h.elim) (by omega) pr.hL pr.hp).mono ?_; rintro _ w2 ⟨rfl,hc2,hF2⟩
   exact ⟨_,rfl,rfl,hc2,hFA.trans' hF2⟩
  rw [if_neg p11]
  refine br_of (fun p12 => ?_) (fun p12 => ?_) <;> simp only [Bool.or_eq_true,Bool.or_eq_false_iff,ZJ,ZK,<- not_or] at p12
  ·rw [if_pos p12]
   have hcB : CT O I OK n0 wa.drew.heap m K D σ δ := hcA
   refine ⟨_,_,_,hcB.d10,_,_,_,hcB.d10,?_⟩
   have hsl := hcB.dn.st
   have hln := hsl.len; have hcap := hsl.cap; have hs2 := hcB.dn.s2
   rw [show IntKind.wrap .i64 ((D.st.n : Int) - 1) = ((D.st.n - 1 : Nat) : Int) by rw [wrap_id (by omega) (by omega)]; omega]
   refine chk_of (by simp; omega) ?_
   simp only [Int.toNat_natCast]
   have hcut := hsl.cut (lo := D.st.n - 1) (hi := D.st.n) (mx := D.st.c) (by omega) (by omega) (by omega) (by omega)
   rw [List.take_of_length_le (by rw [List.length_drop]; omega)] at hcut
   rw [<- hln] at hcut ⊢
   refine (act_call_ok hcB pr.hg hcut (fun _ _ h => h) (by omega) pr.hL pr.hp).mono ?_; rintro _ w2 ⟨rfl,hc2,hF2⟩
   have hd10 := hc2.d10
   rw [<- hln] at hd10
   exact ⟨_,rfl,⟨hd10,hd10,trivial⟩,rfl,hc2,hFA.trans' (h1 := wa.heap) hF2⟩
  rw [if_neg p12]
  refine br_of (fun p13 => ?_) (fun p13 => ?_) <;> simp only [Bool.or_eq_true,Bool.or_eq_false_iff,ZJ,ZK,<- not_or] at p13
  ·rw [if_pos p13]
   refine (act_fork_ok hcA pr.hg (by omega) pr.hL pr.hq pr.hT).mono ?_; rintro _ w2 ⟨rfl,hc2,hF2⟩
   exact ⟨_,rfl,rfl,hc2,hFA.trans' hF2⟩
  rw [if_neg p13]
  refine br_of (fun p14 => ?_) (fun p14 => ?_) <;> simp only [Bool.or_eq_true,Bool.or_eq_false_iff,ZJ,ZK,<- not_or] at p14
  ·rw [if_pos p14]
   refine (act_plain_ok hcA pr.hq (by omega)).mono ?_; rintro _ w2 ⟨rfl,hc2,hF2⟩
   exact ⟨_,rfl,rfl,hc2,hFA.trans' hF2⟩
  rw [if_neg p14]
  refine br_of (fun p15 => ?_) (fun p15 => ?_) <;> simp only [Bool.or_eq_true,Bool.or_eq_false_iff,ZJ,ZK,<- not_or] at p15
  ·rw [if_pos p15]
   refine (act_numbered_ok hcA pr.hq (by omega) (by omega)).mono ?_; rintro _ w2 ⟨rfl,hc2,hF2⟩
   exact ⟨_,rfl,rfl,hc2,hFA.trans' hF2⟩
  rw [if_neg p15]
  refine br_of (fun p19 => ?_) (fun p19 => ?_) <;> simp only [Bool.or_eq_true,Bool.or_eq_false_iff,ZJ,ZK,<- not_or] at p19
  ·rw [if_pos p19]
   refine (act_copy_ok hcA (by omega) pr.hf pr.hcp).mono ?_; rintro _ w2 ⟨rfl,hc2,hF2⟩
   exact ⟨_,rfl,rfl,hc2,hFA.trans' hF2⟩
  rw [if_neg p19]
  refine br_of (fun p20 => ?_) (fun p20 => ?_) <;> simp only [Bool.or_eq_true,Bool.or_eq_false_iff,ZJ,ZK,<- not_or] at p20
  ·rw [if_pos p20]
   refine (act_swap_ok hcA (by omega)).mono ?_; rintro _ w2 ⟨rfl,hc2,hF2⟩
   exact ⟨_,rfl,rfl,hc2,hFA.trans' hF2⟩
  rw [if_neg p20]
  exact ⟨rfl,hcA,hFA⟩
end
end
section
section
variable {α : Type} {O : StoreOps α} {I : Hp -> (Nat -> Prop) -> Value -> α -> Prop} {OK : Nat -> Prop} {n0 : Nat} {m : Nat} {K : MK} {D : DK} {σ : TM α} {δ : TD} {w : World}
theorem act_do_ok (hc : CT O I OK n0 w.heap m K D σ δ) {op : Int} (pr : Pre O σ δ op) : Calls P F.Zv #[.pointer (some ⟨D.d,0,none⟩),.int .i64 op] w (DTo O I OK n0 m K D δ (.int .i64 (dDo O σ δ op).1) (dDo O σ δ op).2 w) := by
 refine oZv ?_
 unfold vZv
 unfold dDo
 have hz := pr.hz; have ha := pr.ha
 rw [join_eq]
 refine br_of (fun h0 => ?_) (fun h0 => ?_) <;> simp only [ZJ,ZK,ZL,ZM,ZN,ZO,ZP,ZQ,ZR] at h0
 ·rw [if_pos h0]
  have hc0 : CT O I OK n0 w.drew.heap m K D σ δ := hc
  have hln := hc.dn.sl.len
  have hi := pr.i0 h0
  refine ⟨_,_,_,hc0.d9,_,hc0.d11,chk_of (by simp; omega) ?_⟩
  refine hc0.dn.sl.idx1 (w := w.drew) (i := δ.arg.toNat) (getD_some (d := 0) (by omega)) ?_; intro g o _ hcell
  refine ⟨_,hcell,?_⟩
  refine (act_push_ok hc0 _).mono ?_; rintro _ w2 ⟨rfl,hc2,hF2⟩
  exact ⟨_,rfl,⟨hc2.d11,hc2.d9,trivial⟩,rfl,hc2,hF2⟩
 rw [if_neg h0]
 simp only [join_eq,br_or]
 refine br_of (fun h1 => ?_) (fun h1 => ?_) <;> simp only [Bool.or_eq_true,Bool.or_eq_false_iff,ZJ,ZK,<- not_or] at h1
 ·rw [if_pos h1]
  refine (act_place_ok hc op).mono ?_; rintro _ w2 ⟨rfl,hc2,hF2⟩
  exact ⟨_,rfl,rfl,hc2,hF2⟩
 rw [if_neg h1]
 refine br_of (fun h2 => ?_) (fun h2 => ?_) <;> simp only [Bool.or_eq_true,Bool.or_eq_false_iff,ZJ,ZK,<- not_or] at h2
 ·rw [if_pos h2]
  have hc0 : CT O I OK n0 w.drew.heap m K D σ δ := hc
  have hFw : Fr OK w.heap w.drew.heap := Fr.refl _ _
  rw [wv_eq]
  generalize w.drew = wa at *
  have hi := pr.i2 (.inl h2)
  refine ⟨_,hc0.d0,?_⟩
  rw [onPtr_some]
  refine ⟨_,_,_,hc0.inv.c2,_,hc0.d3,?_⟩
  obtain ⟨m0,m1⟩ := (hc0.inv.meth pr.hm (Q := fun _ _ => True) (fun _ _ _ _ _ _ => trivial)).1
  refine chk_of (by simp; omega) ((hc0.inv.meth pr.hm (fun o r g o' hr hh => ?_)).2)
  refine ⟨r.lits.p,r.lits.n,r.lits.c,hh.2.2.1,_,hc0.d11,?_⟩
  have hln := hr.lits.len
  refine chk_of (by simp; omega) ?_
  refine hr.lits.idx (i := δ.arg.toNat) (getD_some (d := default) (by omega)) ?_; intro g1 o1 _ hh1
  refine ⟨_,hh1.2,?_⟩
  refine (word_Int_ok _ wa).mono ?_; rintro _ _ ⟨rfl,n3,rfl⟩
  have hc3 : CT O I OK n0 (dr wa n3).heap m K D σ δ := hc0
  refine ⟨_,_,rfl,⟨hc3.d11,hh.2.2.1,hc3.d3,hc3.inv.c2,hc3.d0,trivial⟩,?_⟩
  refine (act_push_ok hc3 _).mono ?_; rintro _ w2 ⟨rfl,hc2,hF2⟩
  exact ⟨_,rfl,rfl,hc2,hFw.trans' (h1 := wa.heap) hF2⟩
 rw [if_neg h2]
 refine br_of (fun h3 => ?_) (fun h3 => ?_) <;> simp only [Bool.or_eq_true,Bool.or_eq_false_iff,ZJ,ZK,<- not_or] at h3
 ·rw [if_pos h3]
  refine ⟨_,hc.d8,?_⟩
  refine (act_push_ok hc _).mono ?_; rintro _ w2 ⟨rfl,hc2,hF2⟩
  exact ⟨_,rfl,rfl,hc2,hF2⟩
 rw [if_neg h3]
 refine br_of (fun h4 => ?_) (fun h4 => ?_) <;> simp only [Bool.or_eq_true,Bool.or_eq_false_iff,ZJ,ZK,<- not_or] at h4
 ·rw [if_pos h4]
  refine (act_push_ok hc _).mono ?_; rintro _ w2 ⟨rfl,hc2,hF2⟩
  exact ⟨_,rfl,rfl,hc2,hF2⟩
 rw [if_neg h4]
 refine br_of (fun h5 => ?_) (fun h5 => ?_) <;> simp only [Bool.or_eq_true,Bool.or_eq_false_iff,ZJ,ZK,<- not_or] at h5
 ·rw [if_pos h5]
  refine (act_push_ok hc _).mono ?_; rintro _ w2 ⟨rfl,hc2,hF2⟩
  exact ⟨_,rfl,rfl,hc2,hF2⟩
 rw [if_neg h5]
 refine br_of (fun h6 => ?_) (fun h6 => ?_) <;> simp only [Bool.or_eq_true,Bool.or_eq_false_iff,ZJ,ZK,<- not_or] at h6
 ·rw [if_pos h6]
  refine (act_push_ok hc _).mono ?_; rintro _ w2 ⟨rfl,hc2,hF2⟩
  exact ⟨_,rfl,rfl,hc2,hF2⟩
 rw [if_neg h6]
 refine br_of (fun h7 => ?_) (fun h7 => ?_) <;> simp only [Bool.or_eq_true,Bool.or_eq_false_iff,ZJ,ZK,<- not_or] at h7
 ·rw [if_pos h7]
  refine (act_number_ok hc).mono ?_; rintro _ w2 ⟨rfl,hc2,hF2⟩
  exact ⟨_,rfl,rfl,hc2,hF2⟩
 rw [if_neg h7]
 refine br_of (fun h15 => ?_) (fun h15 => ?_) <;> simp only [Bool.or_eq_true,Bool.or_eq_false_iff,ZJ,ZK,<- not_or] at h15
 ·rw [if_pos h15]
  refine (act_jump_ok hc).mono ?_; rintro _ w2 ⟨rfl,hc2,hF2⟩
  exact ⟨rfl,rfl,hc2,hF2⟩
 rw [if_neg h15]
 refine br_of (fun h16 => ?_) (fun h16 => ?_) <;> simp only [Bool.or_eq_true,Bool.or_eq_false_iff,ZJ,ZK,<- not_or] at h16
 ·rw [if_pos h16]
  have hc0 : CT O I OK n0 w.drew.heap m K D σ δ := hc
  refine ⟨_,hc0.d0,?_⟩
  rw [onPtr_some]
  refine ⟨_,hc0.inv.c6,_,hc0.d2,_,hc0.d4,_,hc0.d11,?_⟩
  obtain ⟨o,ho,hP,back⟩ := hc0.inv.pool
  refine (frame_Goto_ok hP δ.f _).mono ?_; rintro _ w2 ⟨rfl,hP2,hF2⟩
  obtain ⟨hM2,hFo2⟩ := back _ _ hP2 hF2
  have hc2 := hc0.to hM2 hFo2
  exact ⟨_,rfl,⟨hc2.d11,hc2.d4,hc2.d0,trivial⟩,rfl,hc2,hFo2⟩
 rw [if_neg h16]
 refine br_of (fun h20 => ?_) (fun h20 => ?_) <;> simp only [Bool.or_eq_true,Bool.or_eq_false_iff,ZJ,ZK,<- not_or] at h20
 ·rw [if_pos h20]
  have hi := pr.i2 (.inr h20)
  refine (act_make_ok hc (by omega) pr.hm ⟨ha,hi⟩ pr.i20 pr.hf).mono ?_; rintro _ w2 ⟨rfl,hc2,hF2⟩
  exact ⟨_,rfl,rfl,hc2,hF2⟩
 rw [if_neg h20]
 refine br_of (fun h21 => ?_) (fun h21 => ?_) <;> simp only [Bool.or_eq_true,Bool.or_eq_false_iff,ZJ,ZK,<- not_or] at h21
 ·rw [if_pos h21]
  refine (act_prim_ok hc pr h21).mono ?_; rintro _ w2 ⟨rfl,hc2,hF2⟩
  exact ⟨_,rfl,rfl,hc2,hF2⟩
 rw [if_neg h21]
 refine (act_has_ok hc 1).mono ?_; rintro _ _ ⟨rfl,n,rfl⟩
 refine ⟨_,rfl,?_⟩
 by_cases hs : δ.x.stack.length < 1
 ·rw [if_pos hs,show decide ((1 : Int) <= (δ.x.stack.length : Int)) = false from decide_eq_false (by omega)]
  exact ⟨rfl,hc,Fr.refl _ _⟩
 rw [if_neg hs,show decide ((1 : Int) <= (δ.x.stack.length : Int)) = true from decide_eq_true (by omega)]
 simp only [Bool.not_true,br_false]
 refine (act_value_ok (w := dr w n) hc pr (by omega)).mono ?_; rintro _ w2 ⟨rfl,hc2,hF2⟩
 exact ⟨_,rfl,rfl,hc2,hF2⟩
end
section
variable {α : Type} (O : StoreOps α)
def sX (σ : TM α) : TFrame := (pAt σ.pool (σ.top.getD (qFirst σ.queue).toNat 0)).1
def sI (σ : TM α) : Int × Int × Bool := cFetch (σ.meth (sX σ).method).code (sX σ).pc
def sD (σ : TM α) : TD := ⟨qFirst σ.queue,σ.top.getD (qFirst σ.queue).toNat 0,sX σ,(sI σ).2.1⟩
def sM (σ : TM α) : TM α := { σ with looks := 0,why := 0,pool := pGoto σ.pool (σ.top.getD (qFirst σ.queue).toNat 0) (IntKind.wrap .i64 ((sX σ).pc + 2)) }
def sR (σ : TM α) : Int × TM α := dDo O (sM σ) (sD σ) (sI σ).1
def mStep (σ : TM α) : Bool × TM α :=
 if σ.halted then (false,σ) else if qFirst σ.queue < 0 then (false,σ)
 else if (sR O σ).1 = -1 then (true,mTell { (sR O σ).2 with halted := true } 5 0 ⟨0,0⟩)
 else if (sR O σ).1 = 0 then (true,(sR O σ).2) else (true,mFail (sR O σ).2 (qFirst σ.queue) (sR O σ).1)
structure SPre (σ : TM α) : Prop where
 hq : QInv σ.queue
 go : σ.halted = false -> 0 <= qFirst σ.queue -> Pre O (sM σ) (sD σ) (sI σ).1 /\ ((sR O σ).2.events.length < 999990) /\
  ((sR O σ).1 ≠ -1 -> (sR O σ).1 ≠ 0 -> QInv (sR O σ).2.queue /\ ∃ L,ChainOf (sR O σ).2.pool L ((sR O σ).2.top.getD (qFirst σ.queue).toNat 0) /\ L.Nodup)
end
section
variable {α : Type} {O : StoreOps α} {I : Hp -> (Nat -> Prop) -> Value -> α -> Prop} {OK : Nat -> Prop} {n0 : Nat} {m : Nat} {K : MK} {σ : TM α} {w : World}
theorem act_Step_ok (hM : Inv O I OK n0 w.heap m K σ) (sp : SPre O σ) : Calls P F.Z4 #[.pointer (some ⟨m,0,none⟩)] w (MTo O I OK n0 m K (.bool (mStep O σ).1) (mStep O σ).2 w) := by
 refine oZ4 ?_
 unfold vZ4
 refine ⟨_,hM.c7,?_⟩
 obtain ⟨o,ho,hQ,_⟩ := hM.queue
 refine (queue_First_ok hQ sp.hq).mono ?_; rintro _ _ ⟨rfl,n,rfl⟩
 have hM0 : Inv O I OK n0 (dr w n).heap m K σ := hM
 have hFw0 : Fr OK w.heap (dr w n).heap := Fr.refl _ _
 generalize dr w n = w0 at *
 refine ⟨_,rfl,?_⟩
 rw [join_eq]
 refine ⟨_,hM0.c66,?_⟩
 unfold mStep
 cases hh : σ.halted with
 | true => simp only [br_true,if_true]; exact ⟨rfl,hM0,hFw0⟩
 | false =>
  simp only [br_false,Bool.false_eq_true,if_false]
  refine br_of (fun h1 => ?_) (fun h1 => ?_) <;> simp only [ZJ,ZK,ZL,ZM,ZN,ZO,ZP,ZQ,ZR] at h1
  ·rw [if_pos h1]; exact ⟨rfl,hM0,hFw0⟩
  rw [if_neg (show ¬ qFirst σ.queue < 0 by omega)]
  obtain ⟨hpre,hev,hbad⟩ := sp.go hh h1
  have hp6 := hpre.hp
  replace hp6 : 0 <= qFirst σ.queue /\ qFirst σ.queue < 6 := hp6
  have hmr : 0 <= (sX σ).method /\ (sX σ).method < σ.u.methods.length := hpre.hm
  refine hM0.slooks 0 ?_; intro w1 hM1 hF1 _ _
  refine hM1.swhy 0 ?_; intro w3 hM3 hF3 _ _
  have hFw3 := (hFw0.trans' hF1).trans' hF3
  refine chk_of (by simp; omega) ⟨_,hM3.ctop (k := (qFirst σ.queue).toNat) (by omega),_,hM3.c6,?_⟩
  obtain ⟨o1,ho1,hP1,_⟩ := hM3.pool
  refine (frame_At_ok hP1 _).mono ?_; rintro _ w4 ⟨rf,rfl,hrf,hN4⟩
  refine ⟨_,_,_,_,_,_,_,_,_,_,_,_,_,rfl,?_⟩
  refine newB_i ?_; intro b w5 b_eq hB5 hN5 w5_sz; try simp only [drew_heap',dr_heap] at b_eq hN5
  refine stores_i hB5 (by simp [sets_length]) ?_; intro w6 hB6 hF6 w6_sz; try simp only [drew_heap',dr_heap] at w6_sz hF6
  simp only [sets,ZH,ZI] at hB6
  have hle4 := hN4.le; have hle5 := hN5.le
  have hN46 : Nw w4.heap w6.heap := hN5.st hF6 (by omega)
  have hN6 : Nw w3.heap w6.heap := hN4.tr hN46
  have hM6 := hM3.nw hN6
  replace hB6 : Bk w6.drew.heap b rf.vs := hB6
  replace hN46 : Nw w4.heap w6.drew.heap := hN46
  replace hN6 : Nw w3.heap w6.drew.heap := hN6
  replace hM6 : Inv O I OK n0 w6.drew.heap m K _ := hM6
  rw [wv_eq]
  have hbge : w3.heap.size <= b := by omega
  generalize w6.drew = w7 at *
  have hmeq : rf.method = (sX σ).method := hrf.method
  have hpeq : rf.pc = (sX σ).pc := hrf.pc
  refine ⟨_,_,_,hM6.c2,rf.method,by rw [hB6.cell]; rfl,?_⟩
  obtain ⟨m0,m1⟩ := (hM6.meth hmr (Q := fun _ _ => True) (fun _ _ _ _ _ _ => trivial)).1
  rw [hmeq]
  have hex : ∃ (g o : Nat),K.c.methods.p = some ⟨g,o,none⟩ := by
   obtain ⟨o,_,hu⟩ := hM6.unit
   obtain ⟨lm,hm1,hmA⟩ := hu.methods
   obtain ⟨g,pre,post,e,_⟩ := hm1.addr (i := 0) (by omega)
   exact ⟨g,_,e⟩
  obtain ⟨g,og,hg⟩ := hex
  obtain ⟨r,oM,hr7,hh7⟩ : ∃ (r : CMethod) (oM : Nat -> Prop),IsMethod w7.heap oM r (σ.meth (sX σ).method) /\ holds w7 g (og + (sX σ).method.toNat * 4) r.vs := by
   have := (hM6.meth hmr (Q := fun g o => ∃ (r : CMethod) (oM : Nat -> Prop),IsMethod w7.heap oM r (σ.meth (sX σ).method) /\ holds w7 g (o + (sX σ).method.toNat * 4) r.vs) (fun oM r g o' hr hh => ⟨r,oM,hr,hh⟩)).2
   rw [hg] at this
   exact this
  refine chk_of (by simp; omega) ?_
  rw [show onPtr K.c.methods.p = onPtr (some ⟨g,og,none⟩) by rw [hg],onPtr_some]
  refine ⟨r.args,r.temps,r.lits.p,r.lits.n,r.lits.c,r.code.p,r.code.n,r.code.c,hh7,rf.pc,by rw [hB6.cell]; rfl,?_⟩
  rw [hpeq]
  constructor
  ·refine (code_Fetch_ok hr7).mono ?_; rintro _ w8 ⟨rfl,hN8⟩
   rw [show cFetch (σ.meth (sX σ).method).code (sX σ).pc = sI σ from rfl]
   have hM8 := hM6.nw hN8
   refine ⟨_,_,_,rfl,⟨by rw [(hB6.nw hN8).cell,<- hmeq]; rfl,hM8.c2,trivial⟩,?_⟩
   refine newB_i ?_; intro bi w9 bi_eq hB9 hN9 w9_sz; try simp only [drew_heap',dr_heap] at bi_eq hN9
   have hM9 := hM8.nw hN9
   refine ⟨⟨by rw [((hB6.nw hN8).nw hN9).cell,<- hmeq]; rfl,hM9.c2,trivial⟩,?_⟩
   refine stores_i hB9 (by simp [sets_length]) ?_; intro wA hBi hFA wA_sz; try simp only [drew_heap',dr_heap] at wA_sz hFA
   simp only [sets,ZH,ZI] at hBi
   have hle8 := hN8.le
   have hN7A : Nw w7.heap wA.heap := (hN8.tr hN9).st hFA (by omega)
   have hBf := hB6.nw hN7A
   have hNy := hN6.tr hN7A
   have hN4y := hN46.tr hN7A
   have hbi0 : w3.heap.size <= bi := by have := hN6.le; omega
   refine ⟨trivial,?_⟩
   refine ⟨rf.method,rf.pc,rf.sender,rf.home,rf.serial,rf.self,rf.slots.p,rf.slots.n,rf.slots.c,rf.stack.p,rf.stack.n,rf.stack.c,hBf.holds,(sI σ).2.1,by rw [hBi.cell]; rfl,?_⟩
   refine newB_i ?_; intro b2 w11 b2_eq hB11 hN11 w11_sz; try simp only [drew_heap',dr_heap] at b2_eq hN11
   have hNz := hNy.tr hN11
   have hMz := hM3.sub hNz
   have hlez := hNz.le
   have hb2 := hB11.lt
   obtain ⟨D,hD⟩ : ∃ D : DK,D = ⟨b2,rf.slots,rf.stack⟩ := ⟨_,rfl⟩
   have hbz := (hBf.nw hN11); have hbi := hBi.nw hN11
   have hbl := hbz.lt; have hbl2 := hbi.lt
   have hdn : Dn (Sub OK w3.heap.size w11.heap.size) w11.heap m D (sD σ) := by
    subst hD
    refine ⟨?_,(show ¬ Sub OK w3.heap.size w11.heap.size b2 from not_sub (by have := hNy.le; omega) hb2),?_,?_,hrf.sm.1,hrf.sm.2⟩
    ·have : dcells m ⟨b2,rf.slots,rf.stack⟩ (sD σ) = [.pointer (some ⟨m,0,none⟩),.int .i64 (qFirst σ.queue),.int .i64 (σ.top.getD (qFirst σ.queue).toNat 0),.int .i64 rf.method,.int .i64 rf.pc,.int .i64 rf.sender,.int .i64 rf.home,.int .i64 rf.serial,.int .u32 rf.self,.slice rf.slots.p rf.slots.n rf.slots.c,.slice rf.stack.p rf.stack.n rf.stack.c,.int .i64 (sI σ).2.1] := by
      simp only [dcells,sD,sX,hrf.method,hrf.pc,hrf.sender,hrf.home,hrf.serial,hrf.self]
     rw [this]; exact hB11
    ·exact (hrf.slots.nw (hN4y.tr hN11)).mono fun y hy h => not_sub h hy
    ·exact (hrf.stack.nw (hN4y.tr hN11)).mono fun y hy h => not_sub h hy
   have hct : CT O I (Sub OK w3.heap.size w11.heap.size) w11.heap.size w11.drew.heap m K D _ (sD σ) := ⟨hMz,hdn⟩
   have hbzD : Bk w11.drew.heap b rf.vs := hbz
   have hbiD : Bk w11.drew.heap bi [.int .i64 (sI σ).1,.int .i64 (sI σ).2.1] := hbi
   have hszD : w11.drew.heap.size = w11.heap.size := rfl
   have hNzD : Nw w3.heap w11.drew.heap := hNz
   rw [wv_eq]
   generalize hw11 : w11.drew = w12 at *
   refine ⟨_,hct.inv.c6,rf.pc,by rw [hbzD.cell]; rfl,?_⟩
   obtain ⟨o2,ho2,hP2,back2⟩ := hct.inv.pool
   refine (frame_Goto_ok hP2 _ _).mono ?_; rintro _ w13 ⟨rfl,hP13,hF13⟩
   obtain ⟨hM13,hFo13⟩ := back2 _ _ hP13 hF13
   have hb13 := hbzD.fr hFo13 (not_sub (by omega) (by omega))
   have hi13 := hbiD.fr hFo13 (not_sub (by omega) (by omega))
   refine ⟨_,rfl,⟨by rw [hb13.cell]; rfl,trivial⟩,(sI σ).1,by rw [hi13.cell]; rfl,?_⟩
   have hpc : rf.pc = (sX σ).pc := hrf.pc
   have hct13 : CT O I (Sub OK w3.heap.size w11.heap.size) w11.heap.size w13.heap m K D (sM σ) (sD σ) := by
    have := hct.to hM13 hFo13
    rw [hpc] at this
    exact this
   have hDd : b2 = D.d := by rw [hD]
   rw [hDd]
   refine (act_do_ok hct13 hpre).mono ?_; rintro _ w14 ⟨rfl,hct14,hF14⟩
   refine ⟨_,rfl,?_⟩
   have hFz := hFo13.trans' hF14
   have hfin : ∀ {w' : World} {σ' : TM α},Inv O I (Sub OK w3.heap.size w11.heap.size) w11.heap.size w'.heap m K σ' -> Fr (Sub OK w3.heap.size w11.heap.size) w14.heap w'.heap -> Inv O I OK n0 w'.heap m K σ' /\ Fr OK w.heap w'.heap := fun hM' hF' =>
    ⟨hM3.unsub hM' hlez hM'.le,(hFw3.trans' hNzD.ok).trans' (hM3.frsub (hFz.trans' hF') hlez)⟩
   rw [show dDo O (sM σ) (sD σ) (sI σ).1 = sR O σ from rfl] at hct14 ⊢
   refine br_of (fun hlow => ?_) (fun hlow => ?_) <;> simp only [ZJ,ZK] at hlow
   ·rw [if_pos hlow]
    refine hct14.inv.shalted true ?_; intro w15 hM15 hF15 _ _
    refine (act_tell_ok hM15 (by show (sR O σ).2.events.length < _; omega) 5 0 ⟨0,0⟩).mono ?_; rintro _ w16 ⟨rfl,hM16,hF16⟩
    obtain ⟨a1,a2⟩ := hfin hM16 (hF15.trans' hF16)
    exact ⟨rfl,rfl,a1,a2⟩
   rw [if_neg hlow]
   refine br_of (fun h0 => ?_) (fun h0 => ?_) <;> simp only [ZL,ZM,ZJ,ZK] at h0
   ·rw [if_neg h0]
    obtain ⟨hq2,L,hL1,hL2⟩ := hbad hlow h0
    refine (act_fail_ok hct14.inv hq2 hev hpre.hp _ hL1 hL2).mono ?_; rintro _ w16 ⟨rfl,hM16,hF16⟩
    obtain ⟨a1,a2⟩ := hfin hM16 hF16
    exact ⟨rfl,rfl,a1,a2⟩
   ·rw [if_pos h0]
    obtain ⟨a1,a2⟩ := hfin hct14.inv (Fr.refl _ _)
    exact ⟨rfl,a1,a2⟩
  ·refine newB_i ?_; intro bi w8 bi_eq hB8 hN8 w8_sz; try simp only [drew_heap',dr_heap] at bi_eq hN8
   have hM8 := hM6.nw hN8
   have hh8 : holds w8 g (og + (sX σ).method.toNat * 4) r.vs := holds_nw hN8 (cell_lt hh7.1) hh7
   refine ⟨⟨by rw [(hB6.nw hN8).cell,<- hpeq]; rfl,hh8,by rw [(hB6.nw hN8).cell,<- hmeq]; rfl,hM8.c2,trivial⟩,?_⟩
   refine (code_Fetch_ok (hr7.nw hN8)).mono ?_; rintro _ w9 ⟨rfl,hN9⟩
   rw [show cFetch (σ.meth (sX σ).method).code (sX σ).pc = sI σ from rfl]
   have hM9 := hM8.nw hN9
   refine ⟨_,_,_,rfl,⟨by rw [((hB6.nw hN8).nw hN9).cell,<- hmeq]; rfl,hM9.c2,trivial⟩,?_⟩
   have hB9 := hB8.nw hN9
   refine stores_i hB9 (by simp [sets_length]) ?_; intro wA hBi hFA wA_sz; try simp only [drew_heap',dr_heap] at wA_sz hFA
   simp only [sets,ZH,ZI] at hBi
   have hle8 := hN8.le
   have hN7A : Nw w7.heap wA.heap := (hN8.tr hN9).st hFA (by omega)
   have hBf := hB6.nw hN7A
   have hNy := hN6.tr hN7A
   have hN4y := hN46.tr hN7A
   have hbi0 : w3.heap.size <= bi := by have := hN6.le; omega
   refine ⟨trivial,?_⟩
   refine ⟨rf.method,rf.pc,rf.sender,rf.home,rf.serial,rf.self,rf.slots.p,rf.slots.n,rf.slots.c,rf.stack.p,rf.stack.n,rf.stack.c,hBf.holds,(sI σ).2.1,by rw [hBi.cell]; rfl,?_⟩
   refine newB_i ?_; intro b2 w11 b2_eq hB11 hN11 w11_sz; try simp only [drew_heap',dr_heap] at b2_eq hN11
   have hNz := hNy.tr hN11
   have hMz := hM3.sub hNz
   have hlez := hNz.le
   have hb2 := hB11.lt
   obtain ⟨D,hD⟩ : ∃ D : DK,D = ⟨b2,rf.slots,rf.stack⟩ := ⟨_,rfl⟩
   have hbz := (hBf.nw hN11); have hbi := hBi.nw hN11
   have hbl := hbz.lt; have hbl2 := hbi.lt
   have hdn : Dn (Sub OK w3.heap.size w11.heap.size) w11.heap m D (sD σ) := by
    subst hD
    refine ⟨?_,(show ¬ Sub OK w3.heap.size w11.heap.size b2 from not_sub (by have := hNy.le; omega) hb2),?_,?_,hrf.sm.1,hrf.sm.2⟩
    ·have : dcells m ⟨b2,rf.slots,rf.stack⟩ (sD σ) = [.pointer (some ⟨m,0,none⟩),.int .i64 (qFirst σ.queue),.int .i64 (σ.top.getD (qFirst σ.queue).toNat 0),.int .i64 rf.method,.int .i64 rf.pc,.int .i64 rf.sender,.int .i64 rf.home,.int .i64 rf.serial,.int .u32 rf.self,.slice rf.slots.p rf.slots.n rf.slots.c,.slice rf.stack.p rf.stack.n rf.stack.c,.int .i64 (sI σ).2.1] := by
      simp only [dcells,sD,sX,hrf.method,hrf.pc,hrf.sender,hrf.home,hrf.serial,hrf.self]
     rw [this]; exact hB11
    ·exact (hrf.slots.nw (hN4y.tr hN11)).mono fun y hy h => not_sub h hy
    ·exact (hrf.stack.nw (hN4y.tr hN11)).mono fun y hy h => not_sub h hy
   have hct : CT O I (Sub OK w3.heap.size w11.heap.size) w11.heap.size w11.drew.heap m K D _ (sD σ) := ⟨hMz,hdn⟩
   have hbzD : Bk w11.drew.heap b rf.vs := hbz
   have hbiD : Bk w11.drew.heap bi [.int .i64 (sI σ).1,.int .i64 (sI σ).2.1] := hbi
   have hszD : w11.drew.heap.size = w11.heap.size := rfl
   have hNzD : Nw w3.heap w11.drew.heap := hNz
   rw [wv_eq]
   generalize hw11 : w11.drew = w12 at *
   refine ⟨_,hct.inv.c6,rf.pc,by rw [hbzD.cell]; rfl,?_⟩
   obtain ⟨o2,ho2,hP2,back2⟩ := hct.inv.pool
   refine (frame_Goto_ok hP2 _ _).mono ?_; rintro _ w13 ⟨rfl,hP13,hF13⟩
   obtain ⟨hM13,hFo13⟩ := back2 _ _ hP13 hF13
   have hb13 := hbzD.fr hFo13 (not_sub (by omega) (by omega))
   have hi13 := hbiD.fr hFo13 (not_sub (by omega) (by omega))
   refine ⟨_,rfl,⟨by rw [hb13.cell]; rfl,trivial⟩,(sI σ).1,by rw [hi13.cell]; rfl,?_⟩
   have hpc : rf.pc = (sX σ).pc := hrf.pc
   have hct13 : CT O I (Sub OK w3.heap.size w11.heap.size) w11.heap.size w13.heap m K D (sM σ) (sD σ) := by
    have := hct.to hM13 hFo13
    rw [hpc] at this
    exact this
   have hDd : b2 = D.d := by rw [hD]
   rw [hDd]
   refine (act_do_ok hct13 hpre).mono ?_; rintro _ w14 ⟨rfl,hct14,hF14⟩
   refine ⟨_,rfl,?_⟩
   have hFz := hFo13.trans' hF14
   have hfin : ∀ {w' : World} {σ' : TM α},Inv O I (Sub OK w3.heap.size w11.heap.size) w11.heap.size w'.heap m K σ' -> Fr (Sub OK w3.heap.size w11.heap.size) w14.heap w'.heap -> Inv O I OK n0 w'.heap m K σ' /\ Fr OK w.heap w'.heap := fun hM' hF' =>
    ⟨hM3.unsub hM' hlez hM'.le,(hFw3.trans' hNzD.ok).trans' (hM3.frsub (hFz.trans' hF') hlez)⟩
   rw [show dDo O (sM σ) (sD σ) (sI σ).1 = sR O σ from rfl] at hct14 ⊢
   refine br_of (fun hlow => ?_) (fun hlow => ?_) <;> simp only [ZJ,ZK] at hlow
   ·rw [if_pos hlow]
    refine hct14.inv.shalted true ?_; intro w15 hM15 hF15 _ _
    refine (act_tell_ok hM15 (by show (sR O σ).2.events.length < _; omega) 5 0 ⟨0,0⟩).mono ?_; rintro _ w16 ⟨rfl,hM16,hF16⟩
    obtain ⟨a1,a2⟩ := hfin hM16 (hF15.trans' hF16)
    exact ⟨rfl,rfl,a1,a2⟩
   rw [if_neg hlow]
   refine br_of (fun h0 => ?_) (fun h0 => ?_) <;> simp only [ZL,ZM,ZJ,ZK] at h0
   ·rw [if_neg h0]
    obtain ⟨hq2,L,hL1,hL2⟩ := hbad hlow h0
    refine (act_fail_ok hct14.inv hq2 hev hpre.hp _ hL1 hL2).mono ?_; rintro _ w16 ⟨rfl,hM16,hF16⟩
    obtain ⟨a1,a2⟩ := hfin hM16 hF16
    exact ⟨rfl,rfl,a1,a2⟩
   ·rw [if_pos h0]
    obtain ⟨a1,a2⟩ := hfin hct14.inv (Fr.refl _ _)
    exact ⟨rfl,a1,a2⟩
end
end
section
section
variable {α : Type}
def mPost (σ : TM α) (s : Int) : TM α := { σ with queue := qPost σ.queue s }
def mInput (σ : TM α) (n : Int) : TM α := if (wInt n).2 /\ σ.input.length < 32 then { σ with input := σ.input ++ [(wInt n).1] } else σ
end
section
variable {α : Type} {O : StoreOps α} {I : Hp -> (Nat -> Prop) -> Value -> α -> Prop} {OK : Nat -> Prop} {n0 : Nat} {m : Nat} {K : MK} {σ : TM α} {w : World}
theorem act_Halted_ok (hM : Inv O I OK n0 w.heap m K σ) : Calls P F.Z5 #[.pointer (some ⟨m,0,none⟩)] w (Is (.bool σ.halted) w) := by
 refine oZ5 ?_
 exact ⟨_,hM.c66,Is.mk _ _⟩
theorem act_Why_ok (hM : Inv O I OK n0 w.heap m K σ) : Calls P F.Z6 #[.pointer (some ⟨m,0,none⟩)] w (Is (.int .i64 σ.why) w) := by
 refine oZ6 ?_
 exact ⟨_,hM.c69,Is.mk _ _⟩
theorem act_Roots_ok (hM : Inv O I OK n0 w.heap m K σ) : Calls P F.Z8 #[.pointer (some ⟨m,0,none⟩)] w fun en w' => ∃ n,NewSl eU32 (pRoots σ.pool) n w en w' := by
 refine oZ8 ?_
 refine ⟨_,hM.c6,?_⟩
 obtain ⟨o,ho,hP,_⟩ := hM.pool
 refine (frame_Roots_ok hP).mono ?_; rintro _ w2 ⟨n,p,c,rfl,h1,h2⟩
 exact ⟨_,_,_,rfl,n,p,c,rfl,h1,h2⟩
theorem act_Post_ok (hM : Inv O I OK n0 w.heap m K σ) (hq : QInv σ.queue) (s : Int) : Calls P F.Za #[.pointer (some ⟨m,0,none⟩),.int .i64 s] w (MTo O I OK n0 m K (.tuple #[]) (mPost σ s) w) := by
 refine oZa ?_
 refine ⟨_,hM.c7,?_⟩
 obtain ⟨o,ho,hQ,back⟩ := hM.queue
 refine (queue_Post_ok hQ hq s).mono ?_; rintro _ w2 ⟨t,rfl,hQ2,hF2⟩
 obtain ⟨hM2,hFo2⟩ := back _ _ hQ2 hF2
 exact ⟨_,rfl,rfl,hM2,hFo2⟩
theorem act_Events_ok (hM : Inv O I OK n0 w.heap m K σ) (hl : σ.events.length < 1000000) : Calls P F.Z9 #[.pointer (some ⟨m,0,none⟩)] w (NewSl eEvent σ.events σ.events.length w) := by
 refine oZ9 ?_
 obtain ⟨ev,inp,κ,hp⟩ := hM.mc
 have hlen := hp.evs.len
 refine ⟨ev.p,ev.n,ev.c,by rw [hp.bk.cell,show 64 = 64 + 0 by rfl,mc_hi hp.l1 hp.l2 hp.l3]; rfl,?_⟩
 refine (slices_Clone_api_Event_api_Event_ok hp.evs (by omega)).mono ?_; rintro _ w2 ⟨q,c,rfl,h2,hN2⟩
 refine ⟨_,_,_,rfl,?_⟩
 refine (slices_Clip_api_Event_api_Event_ok h2).mono ?_; rintro _ w3 ⟨q',rfl,rfl,h3⟩
 rw [<- hlen] at h3 ⊢
 exact ⟨_,_,_,rfl,_,_,rfl,h3,hN2⟩
theorem act_Input_ok (hM : Inv O I OK n0 w.heap m K σ) (x : Int) : Calls P F.Zb #[.pointer (some ⟨m,0,none⟩),.int .i64 x] w (MTo O I OK n0 m K (.tuple #[]) (mInput σ x) w) := by
 refine oZb ?_
 refine (word_Int_ok x w).mono ?_; rintro _ _ ⟨rfl,n,rfl⟩
 refine ⟨_,_,rfl,?_⟩
 unfold mInput
 replace hM : Inv O I OK n0 (dr w n).heap m K σ := hM
 have hF0 : Fr OK w.heap (dr w n).heap := Fr.refl _ _
 generalize dr w n = w0 at *
 refine br_of (fun h1 => ?_) (fun h1 => ?_)
 case refine_2 => rw [if_neg (fun h => by rw [h1] at h; simp at h)]; exact ⟨rfl,hM,hF0⟩
 obtain ⟨ev,inp,κ,hp⟩ := hM.mc
 have hlen := hp.inp.len
 have c65 : w0.cell? ⟨m,65,none⟩ = some (.slice inp.p inp.n inp.c) := by rw [hp.bk.cell,show 65 = 64 + 1 by rfl,mc_hi hp.l1 hp.l2 hp.l3]; rfl
 refine ⟨_,_,_,c65,?_⟩
 refine br_of (fun h2 => ?_) (fun h2 => ?_) <;> simp only [ZJ,ZK,ZL,ZM,ZN,ZO,ZP,ZQ,ZR] at h2
 case refine_2 => rw [if_neg (fun h => by omega)]; exact ⟨rfl,hM,hF0⟩
 rw [if_pos ⟨h1,by omega⟩]
 refine ⟨_,_,_,c65,?_⟩
 refine newB_i ?_; intro b w2 b_eq hB2 hN2 w2_sz; try simp only [drew_heap',dr_heap] at b_eq hN2
 have hm2 := hp.bk.nw hN2
 have hs1 : Sl w2.heap (fun y => y = b) eU32 (some ⟨b,0,none⟩) 1 1 [(wInt x).1] := (Sl.of_blk (l := [(wInt x).1]) (E := eU32) hB2 rfl rfl (by simp)).mono fun _ _ h => h.symm
 have hi2 : Sl w2.heap (fun y => (OK y /\ κ y = 8) /\ y < w0.heap.size) eU32 inp.p inp.n inp.c σ.input := (hp.inp.mono fun y hy h => ⟨h,hy⟩).nw hN2
 refine append_r ty_u32 hi2 hs1 (by omega) ?_
 intro p' c' w3 h3 hF3
 have hm3 := hm2.fr hF3 (fun h => by have := hp.km; have := h.1.2; omega)
 refine stores_i hm3 (by rw [mc_len hp.l1 hp.l2 hp.l3]; simp) ?_; intro w4 hB4 hF4 hz4
 simp only [sets] at hB4
 rw [show 65 = 64 + 1 by rfl,ms_hi hp.l1 hp.l2 hp.l3] at hB4
 have hle2 := hN2.le
 have hF : Fr (fun y => OK y /\ (κ y = 8 \/ κ y = 0)) w0.heap w4.heap := (hN2.fr.trans (T := fun y => OK y /\ (κ y = 8 \/ κ y = 0)) hF3 (fun _ _ h => h) (fun y _ h => ⟨h.1.1,.inl h.1.2⟩)).trans hF4 (fun _ _ h => h) fun y _ h => by rw [h]; exact ⟨hp.okm,.inr hp.km⟩
 refine ⟨rfl,⟨hM.sp,Nat.le_trans hM.le hF.le,hM.up,?_⟩,hF0.trans' (hF.mono fun _ _ h => h.1)⟩
 refine MC.toM (hp.upd (σ' := { σ with input := σ.input ++ [(wInt x).1] }) (ev' := ev) (inp' := ⟨p',inp.n + 1,c'⟩) hM.sp 8 hF hM.ups hB4 hp.l1 hp.l2 hp.l3 (.inl ⟨by omega,rfl⟩) (.inl ⟨by omega,rfl⟩) (.inl ⟨by omega,rfl⟩) (.inl ⟨by omega,rfl⟩) ⟨by omega,rfl⟩ ⟨by omega,rfl⟩ (.inl ⟨by omega,rfl,rfl⟩) (.inr ?_))
 refine h3.fr hF4 (fun y hy h e => ?_) (fun y hy h => ?_)
 ·have := hp.km; have := hp.bk.lt; subst e; rcases h with h | h; (have := h.1.2; omega); omega
 ·rcases h with h | h
  ·exact ⟨h.1.1,by rw [ret_lt h.2]; exact h.1.2⟩
  ·exact ⟨hM.ups y (by omega),by rw [ret_ge (by omega)]⟩
end
end
section
def nilHd : Hd := ⟨none,0,0⟩
def uDicts (u : TUnit) : List TDict := u.classes.map fun c => (dOf c.binds).getD dNew
section
variable {α : Type} (O : StoreOps α)
def mZero (u : TUnit) (s : α) : TM α := ⟨u,s,pNew,qNew,caNew,uDicts u,List.replicate 6 (-1),List.replicate 24 0,List.replicate 24 0,[],[],false,0,0,0⟩
def mStart (u : TUnit) (s : α) (ids : List Int) : TM α :=
 let t := mTake (mZero u s) u.main (wOop (ids.getD 0 0)) [] (-1) (-1) 0
 { t.2 with top := t.2.top.set 0 t.1,queue := qReady t.2.queue 0 1 }
def mNew (s : α) (u : TUnit) : Option (TM α) := match lLoad O s u with
 | (some ids,s') => some (mStart u s' ids)
 | (none,_) => none
end
theorem set9 {α : Type} (K : MK) (σ : TM α) (ev inp d : Hd) : sets (mcells K σ ev inp) 9 [.slice d.p d.n d.c] = mcells { K with dh := d } σ ev inp := rfl
theorem ty_pd : SlTy P T.sl_p_dict_Dict T.p_dict_Dict ePtr := .mk' (z := .pointer none) (s := 1) (b := 8) (by kernel_rfl) (by kernel_rfl) rfl (by omega) rfl
abbrev IsD1 (h : Hp) (o : Nat -> Prop) (b : Nat) (D : TDict) : Prop := IsDict h b D /\ o b
theorem IsD1.fr {x : Nat} {y : TDict} {h h' : Hp} {S o o' : Nat -> Prop} (hx : IsD1 h o x y) (hf : Fr S h h') (hd : ∀ z,z < h.size -> o z -> ¬ S z) (hok : ∀ z,z < h.size -> o z -> o' z) : IsD1 h' o' x y :=
 ⟨hx.1.fr hf (hd _ hx.1.ltb hx.2),hok _ hx.1.ltb hx.2⟩
theorem qInv_new : QInv qNew where
 n1 := rfl
 n2 := rfl
 n3 := rfl
 n4 := rfl
 n5 := rfl
 lev := by decide
 rdy := by
  intro i p h
  have : qNew.ready.getD i [] = [] := by
   match i with
   | 0 => rfl
   | 1 => rfl
   | 2 => rfl
   | 3 => rfl
   | n + 4 => rfl
  rw [this] at h; simp at h
 rng := by intro p h; simp [qAll,qNew] at h
 nd := by simp [qAll,qNew]
theorem lAllocN_len {α : Type} (O : StoreOps α) (objs : List TObj) (σ : α) : ∀ (k : Nat) (ids : List Int) (s : α),lAllocN O objs σ k = (some ids,s) -> ids.length = k
 | 0,ids,s,h => by simp only [lAllocN,Prod.mk.injEq,Z3] at h; rw [<- h.1]; rfl
 | k + 1,ids,s,h => by
  simp only [lAllocN] at h
  split at h
  ·rename_i ids' s' h'
   have ih := lAllocN_len O objs σ k ids' s' h'
   split at h
   ·simp at h
   ·simp only [Prod.mk.injEq,Z3] at h
    rw [<- h.1,List.length_append,ih]; rfl
  ·simp at h
theorem lLoad_len {α : Type} {O : StoreOps α} {σ s : α} {u : TUnit} {ids : List Int} (h : lLoad O σ u = (some ids,s)) : ids.length = u.objects.length := by
 unfold lLoad at h
 split at h
 ·rename_i ids' s' h'
  simp only [Prod.mk.injEq,Z3] at h
  rw [<- h.1]; exact lAllocN_len O u.objects σ _ ids' s' h'
 ·simp at h
section
variable {α : Type} {O : StoreOps α} {I : Hp -> (Nat -> Prop) -> Value -> α -> Prop} {w : World} {ok oku : Nat -> Prop} {s : Value} {st : TypeId} {σ : α} {c : CUnit} {u : TUnit}
def NewTo (O : StoreOps α) (I : Hp -> (Nat -> Prop) -> Value -> α -> Prop) (ok : Nat -> Prop) (st : TypeId) (s : Value) (r : Option (TM α)) (w : World) : Ending -> World -> Prop := fun en w' =>
 match r with
 | some σ => ∃ m K,en = .returned (.pointer (some ⟨m,0,none⟩)) /\ K.st = st /\ K.s = s /\ IsM I w'.heap (Old ok w.heap) m K σ /\ Fr ok w.heap w'.heap
 | none => en = .returned (.pointer none)
theorem act_New_ok (sp : StoreSp O st I) (hI : I w.heap ok s σ) (hu : IsUnit w.heap oku c u) (hg : UGood u) (hd : ∀ y,y < w.heap.size -> oku y -> ¬ ok y) (hz : O.size σ + 40 < 1000000) :
  Calls P F.Z2 #[.agg #[.slice c.names.p c.names.n c.names.c,.slice c.classes.p c.classes.n c.classes.c,.slice c.methods.p c.methods.n c.methods.c,.slice c.objects.p c.objects.n c.objects.c,.int .i64 c.main],.iface st s] w (NewTo O I ok st s (mNew O σ u) w) := by
 refine oZ2 ?_
 refine newB_i ?_; intro b w0 b_eq hB hN w0_sz; try simp only [drew_heap',dr_heap] at b_eq hN
 replace hB : Bk w0.heap b c.vs := hB
 refine ⟨c.names.p,c.names.n,c.names.c,c.classes.p,c.classes.n,c.classes.c,c.methods.p,c.methods.n,c.methods.c,c.objects.p,c.objects.n,c.objects.c,c.main,hB.holds,?_⟩
 have hI0 : I w0.heap (fun y => ok y /\ y < w.heap.size) s σ := sp.fr hI hN (fun _ _ _ h => h) fun y hy h => ⟨h,hy⟩
 have hu0 : IsUnit w0.heap (fun y => oku y /\ y < w.heap.size) c u := hu.fr hN (fun _ _ _ h => h) fun y hy h => ⟨h,hy⟩
 refine (store_Load_ok sp hI0 hu0 hg (fun y _ h h' => hd y h.2 h.1 h'.1) hz).mono ?_
 unfold mNew LoadTo
 rintro en w1 hL
 have hll : ∀ ids s',lLoad O σ u = (some ids,s') -> ids.length = u.objects.length := fun _ _ h => lLoad_len h
 generalize lLoad O σ u = r at hL hll ⊢
 obtain ⟨ids?,s'⟩ := r
 cases ids? with
 | none =>
  simp only at hL
  subst hL
  exact ⟨_,_,_,_,rfl,rfl⟩
 | some ids =>
  simp only at hL
  obtain ⟨pi,TL,rfl,hTL,hids,hI1,hF1⟩ := hL
  refine ⟨_,_,_,_,rfl,?_⟩
  simp only [Bool.not_true,br_false]
  have hbw : b = w.heap.size := b_eq
  have hle01 := hF1.le
  have hB1 : Bk w1.heap b c.vs := hB.fr hF1 fun h => by have := h.2; omega
  refine ⟨c.names.p,c.names.n,c.names.c,c.classes.p,c.classes.n,c.classes.c,c.methods.p,c.methods.n,c.methods.c,c.objects.p,c.objects.n,c.objects.c,c.main,hB1.holds,?_⟩
  have hu1 : IsUnit w1.heap (fun y => oku y /\ y < w.heap.size) c u := hu0.fr hF1 (fun y _ h h' => hd y h.2 h.1 h'.1) (fun _ _ h => h)
  refine (unit_Copy_ok hu1 hg).mono ?_; rintro _ w2 ⟨cc,rfl,hcc,hN2⟩
  refine ⟨_,_,_,_,_,_,_,_,_,_,_,_,_,rfl,?_⟩
  refine (frame_New_ok w2).mono ?_; rintro _ w3 ⟨pb,rfl,hpool,hN3⟩
  refine ⟨_,rfl,?_⟩
  refine (queue_New_ok w3).mono ?_; rintro _ w4 ⟨qb,rfl,hqueue,hN4⟩
  refine ⟨_,rfl,?_⟩
  refine (cache_New_ok w4).mono ?_; rintro _ w5 ⟨cb,rfl,hcb,hcache,hN5⟩
  refine ⟨_,rfl,?_⟩
  refine newB_i ?_; intro m w6 m_eq hM6 hN6 w6_sz; try simp only [drew_heap',dr_heap] at m_eq hN6
  obtain ⟨K0,hK0⟩ : ∃ K0 : MK,K0 = ⟨cc,st,s,pb,qb,cb,nilHd⟩ := ⟨_,rfl⟩
  obtain ⟨σz,hσz⟩ : ∃ σz : TM α,σz = { mZero u s' with top := List.replicate 6 0 } := ⟨_,rfl⟩
  have hm6 : Bk w6.heap m (mcells K0 σz nilHd nilHd) := by rw [hK0,hσz]; exact hM6
  have hN15 := ((hN2.tr hN3).tr hN4).tr hN5
  have hN16 := hN15.tr hN6
  have hB6 := hB1.nw hN16
  obtain ⟨lc,hlc,hcA⟩ := hu1.classes
  have hcn : c.classes.n = u.classes.length := by rw [<- hlc.len,hcA.len]
  obtain ⟨g6,g7⟩ := hg.classes.len
  have hle16 := hN16.le
  have hmge : w1.heap.size <= m := by have := hN15.le; omega
  have hmw5 : m = w5.heap.size := m_eq
  have hdl : (uDicts u).length = u.classes.length := by simp [uDicts]
  refine ⟨c.classes.p,c.classes.n,c.classes.c,by rw [hB6.cell]; rfl,?_⟩
  refine ⟨fun t w' => ∃ (k : Nat) (q : Option Addr) (n d : Nat) (T : Nat -> Prop),t = (k : Int) /\ k <= c.classes.n /\ k = n /\ Bk w'.heap b c.vs /\ Bk w'.heap m (mcells { K0 with dh := ⟨q,n,d⟩ } σz nilHd nilHd) /\ Made1 ePtr IsD1 w'.heap w6.heap q n d ((uDicts u).take k) T /\ Fr (fun y => y = m) w6.heap w'.heap,fun t _ => c.classes.n - t.toNat,
   ⟨0,none,0,0,_,rfl,Nat.zero_le _,rfl,hB6,by rw [hK0] at hm6 ⊢; exact hm6,Made1.nil _ _,Fr.refl _ _⟩,?_⟩
  rintro t w7 ⟨k,q,n,d,TT,rfl,hk,rfl,hB7,hm7,hM7,hF67⟩
  have hN17 : Nw w1.heap w7.heap := hN16.tr' hF67 fun y h => by rw [h]; exact hmge
  have hle67 := hF67.le
  have hm6lt := hm6.lt
  have hB1lt := hB1.lt
  have hbm : b ≠ m := by omega
  refine br_of (fun h1 => ?_) (fun h1 => ?_) <;> simp only [ZJ,ZK,ZL,ZM,ZN,ZO,ZP,ZQ,ZR] at h1
  ·refine chk_of (by simp; omega) ?_
   obtain ⟨r,x,hr,hx,hrx⟩ := hcA.getL (i := k) (by omega)
   refine (hlc.nw hN17).idx hr ?_; intro g o _ hh
   refine ⟨_,_,_,_,_,_,hh,?_⟩
   refine newB_i ?_; intro b2 w8 b2_eq hB8 hN8 w8_sz; try simp only [drew_heap',dr_heap] at b2_eq hN8
   refine stores_i hB8 (by simp [sets_length]) ?_; intro w9 hB9 hF9 w9_sz; try simp only [drew_heap',dr_heap] at w9_sz hF9
   simp only [sets,ZH,ZI] at hB9
   have hN79 : Nw w7.heap w9.heap := hN8.st hF9 (by omega)
   refine ⟨r.binds.p,r.binds.n,r.binds.c,by rw [hB9.cell]; rfl,?_⟩
   refine (dict_Of_ok (hrx.binds.nw (hN17.tr hN79))).mono ?_; rintro _ wA ⟨hNA,hdo⟩
   have hsome := hg.dicts x (List.mem_of_getElem? hx)
   rcases hdo with ⟨DD,b5,hD,rfl,hb5,hID⟩ | ⟨hD,_⟩
   case inr => rw [hD] at hsome; simp at hsome
   have hN7A := hN79.tr hNA
   have hmA := hm7.nw hN7A
   refine ⟨_,_,rfl,q,k,d,by rw [hmA.cell]; rfl,?_⟩
   refine newB_i ?_; intro b3 wB b3_eq hBB hNB wB_sz; try simp only [drew_heap',dr_heap] at b3_eq hNB
   have hN7B := hN7A.tr hNB
   have hs1 : Sl wB.heap (fun y => y = b3) ePtr (some ⟨b3,0,none⟩) 1 1 [b5] := (Sl.of_blk (l := [b5]) (E := ePtr) hBB rfl rfl (by simp)).mono fun _ _ h => h.symm
   obtain ⟨⟨lk,hl1,hl2⟩,hl3⟩ := hM7
   refine append_r ty_pd ((hl1.mono (ok' := fun z => TT z /\ z < w7.heap.size) fun z hz hT => ⟨hT,hz⟩).nw hN7B) hs1 (by omega) ?_
   intro qE cE wE hE hFE
   have hmE := (hmA.nw hNB).fr hFE (fun h => by have := hl3 _ h.1; omega)
   refine stores_i hmE (by rw [mc_len (by rw [hσz]; rfl) (by rw [hσz]; rfl) (by rw [hσz]; rfl)]; simp) ?_; intro wF hmF hFF hzF
   rw [set9 _ _ _ _ ⟨qE,k + 1,cE⟩] at hmF
   have hBF := (((hB7.nw hN7A).nw hNB).fr hFE (fun h => by have := hl3 _ h.1; omega)).fr hFF hbm
   have hxd : (uDicts u)[k]? = some DD := by simp [uDicts,hx,hD]
   have hle79 := hN79.le
   rw [wrap_id (by omega) (by omega)]
   refine ⟨⟨k + 1,qE,k + 1,cE,Old (fun z => TT z /\ z < w7.heap.size) wB.heap,rfl,by omega,rfl,hBF,hmF,?_,?_⟩,by (first | omega | (dsimp only; omega))⟩
   ·rw [take_succ_some hxd]
    exact Made1.push hl1 hl2 hl3 (fun h hf hd hok => IsD1.fr h hf hd hok) hle67 hm6lt hN7B hE hFE hFF ⟨hID.nw hNB,by omega⟩
   ·exact ((hF67.trans hN7B.fr (fun _ _ h => h) (fun _ _ h => h)).trans (T := fun y => y = m) hFE (fun _ _ h => h) (fun z hz h => by have := hl3 _ h.1; omega)).trans hFF (fun _ _ h => h) (fun _ _ h => h)
  obtain ⟨ld,hld1,hld2⟩ := hM7.done (fun h hok => ⟨h.1,hok _ h.1.ltb h.2⟩)
  rw [List.take_of_length_le (by omega)] at hld2
  obtain ⟨K,hK⟩ : ∃ K : MK,K = { K0 with dh := ⟨q,k,d⟩ } := ⟨_,rfl⟩
  rw [<- hK] at hm7
  refine ⟨fun t w' => ∃ j : Nat,t = (j : Int) /\ j <= 6 /\ Bk w'.heap b c.vs /\ Bk w'.heap m (mcells K { σz with top := List.replicate j (-1) ++ List.replicate (6 - j) 0 } nilHd nilHd) /\ Fr (fun y => y = m) w7.heap w'.heap,fun t _ => 6 - t.toNat,⟨0,rfl,by omega,hB7,by rw [hσz] at hm7 ⊢; exact hm7,Fr.refl _ _⟩,?_⟩
  rintro t w8 ⟨j,rfl,hj,hB8,hm8,hF78⟩
  refine br_of (fun h2 => ?_) (fun h2 => ?_) <;> simp only [ZJ,ZK,ZL,ZM,ZN,ZO,ZP,ZQ,ZR] at h2
  ·refine chk_of (by simp; omega) ?_
   have l1 : (List.replicate j (-1 : Int) ++ List.replicate (6 - j) 0).length = 6 := by simp; omega
   refine stores_i hm8 (by rw [mc_len (by exact l1) (by rw [hσz]; rfl) (by rw [hσz]; rfl)]; simp; omega) ?_; intro w9 hm9 hF9 hz9
   rw [Int.toNat_natCast,ms_top (by exact l1) (by omega)] at hm9
   rw [wrap_id (by omega) (by omega)]
   refine ⟨⟨j + 1,rfl,by omega,hB8.fr hF9 hbm,?_,hF78.trans' hF9⟩,by (first | omega | (dsimp only; omega))⟩
   have e : (List.replicate j (-1 : Int) ++ List.replicate (6 - j) 0).set j (-1) = List.replicate (j + 1) (-1) ++ List.replicate (6 - (j + 1)) 0 := by
    obtain ⟨i,hi⟩ : ∃ i,6 - j = i + 1 := ⟨6 - j - 1,by omega⟩
    rw [List.set_append_right _ _ (by simp),hi,show 6 - (j + 1) = i by omega,List.length_replicate,Nat.sub_self,List.replicate_succ,List.set_cons_zero,List.replicate_succ' (n := j),List.append_assoc]; rfl
   simp only at hm9
   rw [e] at hm9
   exact hm9
  obtain rfl : j = 6 := by omega
  rw [show ({ σz with top := List.replicate 6 (-1) ++ List.replicate (6 - 6) 0 } : TM α) = mZero u s' by rw [hσz]; rfl] at hm8
  have hF68 : Fr (fun y => y = m) w6.heap w8.heap := hF67.trans' hF78
  have hle78 := hF78.le
  have hle2 := hN2.le; have hle3 := hN3.le; have hle4 := hN4.le; have hle5 := hN5.le; have hle6 := hN6.le
  obtain ⟨κ,hκ⟩ : ∃ κ : Nat -> Nat,κ = fun y => if y < w1.heap.size then 4 else if y < w2.heap.size then 5 else if y < w3.heap.size then 1 else if y < w4.heap.size then 2 else if y < w5.heap.size then 3 else if y = m then 0 else 6 := ⟨_,rfl⟩
  obtain ⟨OKn,hOK⟩ : ∃ OKn : Nat -> Prop,OKn = fun y => ((Old (fun y => ok y /\ y < w.heap.size) w0.heap y /\ ¬ TL y) /\ y < w1.heap.size) \/ w1.heap.size <= y := ⟨_,rfl⟩
  have okr : ∀ y,w1.heap.size <= y -> OKn y := fun y h => by rw [hOK]; exact .inr h
  have fr : ∀ {h : Hp},Nw h w6.heap -> Fr (fun y => y = m) h w8.heap := fun hf => hf.fr.trans hF68 (fun _ _ h => h) (fun _ _ h => h)
  have k4 : ∀ y,y < w1.heap.size -> κ y = 4 := fun y h => by rw [hκ]; simp [h]
  have k5 : ∀ y,w1.heap.size <= y -> y < w2.heap.size -> κ y = 5 := fun y h h' => by rw [hκ]; simp only; rw [if_neg (by omega),if_pos h']
  have k1 : ∀ y,w2.heap.size <= y -> y < w3.heap.size -> κ y = 1 := fun y h h' => by rw [hκ]; simp only; rw [if_neg (by omega),if_neg (by omega),if_pos h']
  have k2 : ∀ y,w3.heap.size <= y -> y < w4.heap.size -> κ y = 2 := fun y h h' => by rw [hκ]; simp only; rw [if_neg (by omega),if_neg (by omega),if_neg (by omega),if_pos h']
  have k3 : ∀ y,w4.heap.size <= y -> y < w5.heap.size -> κ y = 3 := fun y h h' => by rw [hκ]; simp only; rw [if_neg (by omega),if_neg (by omega),if_neg (by omega),if_neg (by omega),if_pos h']
  have k6 : ∀ y,w6.heap.size <= y -> κ y = 6 := fun y h => by rw [hκ]; simp only; rw [if_neg (by omega),if_neg (by omega),if_neg (by omega),if_neg (by omega),if_neg (by omega),if_neg (by omega)]
  have k0 : κ m = 0 := by rw [hκ]; simp only; rw [if_neg (by omega),if_neg (by omega),if_neg (by omega),if_neg (by omega),if_neg (by omega),if_pos trivial]
  have hKst : K.st = st := by rw [hK,hK0]
  have hKs : K.s = s := by rw [hK,hK0]
  have hcl := hcache.ltb
  have hmc : MC I w8.heap OKn m K (mZero u s') nilHd nilHd κ := by
   refine ⟨hm8,rfl,rfl,rfl,okr m hmge,k0,?_,?_,⟨?_,?_,?_⟩,?_,?_,⟨ld,?_,?_⟩,Sl.nil,Sl.nil⟩
   ·rw [hK,hK0]
    exact hpool.fr (fr ((hN4.tr hN5).tr hN6)) (fun y hy _ => by omega) (fun y hy h => ⟨okr y (by have : w2.heap.size <= y := h; omega),k1 y h hy⟩)
   ·rw [hK,hK0]
    exact hqueue.fr (fr (hN5.tr hN6)) (fun y hy _ => by omega) (fun y hy h => ⟨okr y (by have : w3.heap.size <= y := h; omega),k2 y h hy⟩)
   ·rw [hK,hK0]
    exact hcache.fr (fr hN6) (by omega)
   ·rw [hK,hK0]; exact okr cb (by omega)
   ·rw [hK,hK0]; exact k3 cb hcb hcl
   ·rw [hKs]
    exact sp.fr hI1 (fr hN16) (fun y hy _ => by omega) (fun y hy h => ⟨by rw [hOK]; exact .inl ⟨h,hy⟩,k4 y hy⟩)
   ·rw [hK,hK0]
    exact hcc.fr (fr (((hN3.tr hN4).tr hN5).tr hN6)) (fun y hy _ => by omega) (fun y hy h => ⟨okr y h,k5 y h hy⟩)
   ·rw [hK]
    exact hld1.fr hF78 (fun y hy h => by omega) (fun y _ h => ⟨okr y (by omega),k6 y h⟩)
   ·exact hld2.mono fun b D hr => ⟨hr.1.fr hF78 (by have := hr.2; omega),okr b (by have := hr.2; omega),k6 b hr.2⟩
  have hInv : Inv O I OKn w8.heap.size w8.heap m K (mZero u s') := ⟨by rw [hKst]; exact sp,Nat.le_refl _,fun y hy => okr y (by omega),hmc.toM⟩
  have hidl : ids.length = u.objects.length := hll ids s' rfl
  obtain ⟨g1,g2,g3,g4,g5⟩ := hg.len
  have hids8 : Sl w8.heap TL eI64 pi ids.length ids.length ids := hids.fr (fr hN16) (fun y hy _ => by omega) (fun _ _ h => h)
  have hInvD : Inv O I OKn w8.heap.size w8.drew.heap m K (mZero u s') := hInv
  have hBD : Bk w8.drew.heap b c.vs := hB8
  refine ⟨c.main,by rw [hBD.cell]; rfl,chk_of (by simp; omega) ?_⟩
  refine hids8.idx1 (w := w8.drew) (i := 0) (getD_some (d := 0) (by omega)) ?_; intro gi oi _ hci
  refine ⟨ids.getD 0 0,by simpa using hci,?_⟩
  refine (word_Oop_ok _ w8.drew).mono ?_; rintro _ _ ⟨rfl,n9,rfl⟩
  refine ⟨_,rfl,⟨by rw [dr_cell,hBD.cell]; rfl,trivial⟩,?_⟩
  have hmain := hg.main
  have hInv9 : Inv O I OKn w8.heap.size (dr w8.drew n9).heap m K (mZero u s') := hInv
  rw [hu.main]
  have hsh := (UGood.meth (σ := mZero u s') hg (i := u.main) ⟨hmain.1,hmain.2.1⟩).sh
  refine (act_take_ok hInv9 (Sl.nil (ok := fun _ => True)) (by omega) (i := u.main) ⟨hmain.1,hmain.2.1⟩ ⟨hsh.2.1,by omega⟩ _ (-1) (-1) 0 rfl).mono ?_
  rintro _ wA ⟨rfl,hMA,hFA⟩
  refine ⟨_,rfl,trivial,?_⟩
  refine hMA.stop (k := 0) (by omega) _ ?_; intro wB hMB hFB _ _
  refine ⟨trivial,_,hMB.c7,?_⟩
  obtain ⟨o,ho,hQ,back⟩ := hMB.queue
  have hqn : (mTake (mZero u s') u.main (wOop (ids.getD 0 0)) [] (-1) (-1) 0).2.queue = qNew := by rw [mTake_same]; rfl
  refine (queue_Ready_ok hQ (by show QInv (mTake (mZero u s') u.main (wOop (ids.getD 0 0)) [] (-1) (-1) 0).2.queue; rw [hqn]; exact qInv_new) 0 1).mono ?_
  rintro _ wC ⟨t,rfl,hQC,hFC⟩
  obtain ⟨hMC,hFoC⟩ := back _ _ hQC hFC
  refine ⟨_,rfl,m,K,rfl,hKst,hKs,?_,?_⟩
  ·obtain ⟨ev,inp,κ',hmcC⟩ := hMC.mc
   refine (hmcC.fr hMC.sp (Fr.refl (fun _ => False) _) (fun _ _ _ h => h) fun y _ h => ?_).toM
   rw [hOK] at h
   rcases h with h | h
   ·rcases h.1.1 with h' | h'
    ·exact .inl h'.1
    ·have := hN.le; exact .inr (by omega)
   ·have := hN.le; exact .inr (by omega)
  ·have hw8 : Fr (fun y => ok y /\ y < w.heap.size) w0.heap w8.heap := hF1.trans (fr hN16) (fun _ _ h => h) (fun y hy h => by omega)
   have hwC : Fr OKn w8.heap wC.heap := Fr.trans' (h := w8.heap) (h1 := wB.heap) (Fr.trans' (h := w8.heap) (h1 := wA.heap) hFA hFB) hFoC
   refine ((hN.fr.trans hw8 (fun _ _ h => h) (fun _ _ h => h)).mono (fun y _ h => h.1)).trans hwC (fun _ _ h => h) fun y hy h => ?_
   rw [hOK] at h
   have := hN.le
   rcases h with h | h
   ·rcases h.1.1 with h' | h'
    ·exact h'.1
    ·omega
   ·omega
end
end
section
theorem store_Load_nil_ok (c : CUnit) (w : World) : Calls P F.Zi #[.nilIface,.agg #[.slice c.names.p c.names.n c.names.c,.slice c.classes.p c.classes.n c.classes.c,.slice c.methods.p c.methods.n c.methods.c,.slice c.objects.p c.objects.n c.objects.c,.int .i64 c.main]] w (Mk (.tuple #[.slice none 0 0,.bool false]) w) := by
 refine oZ4x ?_
 unfold vZ4x
 refine newB_i ?_; intro b w1 b_eq hB hN w1_sz; try simp only [drew_heap',dr_heap] at b_eq hN
 rw [join_eq]
 exact ⟨rfl,hN⟩
theorem store_Load_zero_ok (st : TypeId) (s : Value) (w : World) : Calls P F.Zi #[.iface st s,.agg #[.slice none 0 0,.slice none 0 0,.slice none 0 0,.slice none 0 0,.int .i64 0]] w (Mk (.tuple #[.slice none 0 0,.bool false]) w) := by
 refine oZi ?_
 unfold vZi
 refine newB_i ?_; intro b w1 b_eq hB hN w1_sz; try simp only [drew_heap',dr_heap] at b_eq hN
 rw [join_eq]
 refine ⟨_,_,_,_,_,_,_,_,_,_,_,_,_,Bk.holds (cs := [.slice none 0 0,.slice none 0 0,.slice none 0 0,.slice none 0 0,.int .i64 0]) hB,?_⟩
 refine (unit_Right_zero w1).mono ?_; rintro _ w2 ⟨rfl,hN2⟩
 refine ⟨_,rfl,?_⟩
 rw [show (!(decide ((3 : Int) = 0))) = true by decide,br_true]
 exact ⟨rfl,hN.tr hN2⟩
theorem act_New_nil_ok (c : CUnit) (w : World) : Calls P F.Z2 #[.agg #[.slice c.names.p c.names.n c.names.c,.slice c.classes.p c.classes.n c.classes.c,.slice c.methods.p c.methods.n c.methods.c,.slice c.objects.p c.objects.n c.objects.c,.int .i64 c.main],.nilIface] w (Mk (.pointer none) w) := by
 refine oZ4y ?_
 unfold vZ4y
 refine newB_i ?_; intro b w1 b_eq hB hN w1_sz; try simp only [drew_heap',dr_heap] at b_eq hN
 refine ⟨_,_,_,_,_,_,_,_,_,_,_,_,_,Bk.holds (cs := c.vs) hB,?_⟩
 refine (store_Load_nil_ok c w1).mono ?_; rintro _ w2 ⟨rfl,hN2⟩
 refine ⟨_,_,_,_,rfl,?_⟩
 simp only [Bool.not_false,br_true]
 exact ⟨rfl,hN.tr hN2⟩
theorem act_New_zero_ok (st : TypeId) (s : Value) (w : World) : Calls P F.Z2 #[.agg #[.slice none 0 0,.slice none 0 0,.slice none 0 0,.slice none 0 0,.int .i64 0],.iface st s] w (Mk (.pointer none) w) := by
 refine oZ2 ?_
 unfold vZ2
 refine newB_i ?_; intro b w1 b_eq hB hN w1_sz; try simp only [drew_heap',dr_heap] at b_eq hN
 refine ⟨_,_,_,_,_,_,_,_,_,_,_,_,_,Bk.holds (cs := [.slice none 0 0,.slice none 0 0,.slice none 0 0,.slice none 0 0,.int .i64 0]) hB,?_⟩
 refine (store_Load_zero_ok st s w1).mono ?_; rintro _ w2 ⟨rfl,hN2⟩
 refine ⟨_,_,_,_,rfl,?_⟩
 simp only [Bool.not_false,br_true]
 exact ⟨rfl,hN.tr hN2⟩
end
section
theorem cnt_set {x : Int} : ∀ {ls : List (List Int)} {k : Nat} {l : List Int},k < ls.length -> (ls.set k l).flatten.count x + (ls.getD k []).count x = ls.flatten.count x + l.count x
 | [],_,_,h => by simp at h
 | a :: ls,0,l,_ => by simp [List.count_append]; omega
 | a :: ls,k + 1,l,h => by
  have ih := cnt_set (x := x) (ls := ls) (k := k) (l := l) (by simpa using h)
  simp only [ZH,List.flatten_cons,List.count_append,List.getD_cons_succ]
  omega
theorem qAll_cnt (q : TQueue) (x : Int) : (qAll q).count x = q.ready.flatten.count x + (q.waits.flatten.count x + (q.sleeps.map Prod.fst).count x) := by
 simp [qAll,List.count_append]
theorem getD_set {α : Type} {l : List α} {k i : Nat} {v d : α} (hk : k < l.length) : (l.set k v).getD i d = if i = k then v else l.getD i d := by
 simp only [List.getD_eq_getElem?_getD,List.getElem?_set]
 by_cases h : k = i
 ·subst h; simp [hk]
 ·rw [if_neg h,if_neg (fun e => h e.symm)]
theorem QInv.of_cnt {q : TQueue} (hl : QLen q) (hr : ∀ (i : Nat) (p : Int),p ∈ q.ready.getD i [] -> q.lev p = i) (hc : ∀ x,(qAll q).count x <= 1) (hi : ∀ x,0 < (qAll q).count x -> 0 <= x /\ x < 6 /\ q.inn.getD x.toNat false = true) : QInv q :=
 { toQLen := hl,rdy := hr,rng := fun p hp => hi p (List.count_pos_iff.2 hp),nd := List.nodup_iff_count.2 hc }
theorem QInv.cnt {q : TQueue} (h : QInv q) (x : Int) : (qAll q).count x <= 1 := List.nodup_iff_count.1 h.nd x
theorem QInv.rngc {q : TQueue} (h : QInv q) {x : Int} (hx : 0 < (qAll q).count x) : 0 <= x /\ x < 6 /\ q.inn.getD x.toNat false = true := h.rng x (List.count_pos_iff.1 hx)
theorem QInv.takeQ {q : TQueue} (h : QInv q) : QInv (qTake q).2 /\ ∀ x,(qAll (qTake q).2).count x = (qAll q).count x - (if 0 <= (qTake q).1 /\ x = (qTake q).1 then 1 else 0) := by
 obtain ⟨t1,t2,t3,t4,t5,t6,t7,t8⟩ := h.take
 have hcnt : ∀ x,(qAll (qTake q).2).count x = (qAll q).count x - (if 0 <= (qTake q).1 /\ x = (qTake q).1 then 1 else 0) := by
  intro x
  unfold qTake
  rcases h.first with h0 | ⟨h0,h6,hl0,hl4,l,hl⟩
  ·rw [h0]; simp
  ·rw [if_pos h0]
   rw [qAll_cnt,qAll_cnt]
   have hk : (q.lev (qFirst q)).toNat < q.ready.length := by rw [h.n1]; omega
   have := cnt_set (x := x) (ls := q.ready) (k := (q.lev (qFirst q)).toNat) (l := (q.rd (q.lev (qFirst q))).tail) hk
   have e : q.ready.getD (q.lev (qFirst q)).toNat [] = qFirst q :: l := hl
   rw [e,hl,List.tail_cons,List.count_cons] at this
   simp only [TQueue.setRd]
   rw [hl,List.tail_cons]
   by_cases hx : x = qFirst q
   ·subst hx
    simp only [beq_self_eq_true,if_true,h0,and_self] at this ⊢
    omega
   ·have hb : (qFirst q == x) = false := by simpa using fun e => hx e.symm
    simp only [hb,Bool.false_eq_true,if_false] at this
    simp only [hx,and_false,if_false]
    omega
 refine ⟨QInv.of_cnt t1 (fun i p hp => ?_) (fun x => by rw [hcnt]; have := h.cnt x; omega) (fun x hx => by rw [hcnt] at hx; rw [t7]; exact h.rngc (by omega)),hcnt⟩
 unfold TQueue.lev
 rw [t6]
 refine h.rdy i p ?_
 unfold qTake at hp
 rcases h.first with h0 | ⟨h0,h6,hl0,hl4,l,hl⟩
 ·rw [h0] at hp; exact hp
 ·rw [if_pos h0] at hp
  simp only [TQueue.setRd] at hp
  rw [getD_set (by rw [h.n1]; omega)] at hp
  split at hp
  ·rename_i e
   rw [e]
   exact List.mem_of_mem_tail hp
  ·exact hp
theorem qLast_cnt {q : TQueue} (hl : QLen q) {p : Int} (h0 : 0 <= p) (h6 : p < 6) (x : Int) : (qAll (qLast q p)).count x = (qAll q).count x + (if x = p then 1 else 0) := by
 have hlev := hl.lev p.toNat (by omega)
 have hk : (q.lev p).toNat < q.ready.length := by rw [hl.n1]; unfold TQueue.lev; omega
 have := cnt_set (x := x) (ls := q.ready) (k := (q.lev p).toNat) (l := q.rd (q.lev p) ++ [p]) hk
 rw [List.count_append,List.count_singleton] at this
 rw [qAll_cnt,qAll_cnt]
 simp only [qLast,TQueue.setRd]
 have e : q.ready.getD (q.lev p).toNat [] = q.rd (q.lev p) := rfl
 rw [e] at this
 by_cases hx : x = p
 ·subst hx
  simp only [beq_self_eq_true,if_true] at this ⊢
  omega
 ·have hb : (p == x) = false := by simpa using fun e => hx e.symm
  simp only [hb,Bool.false_eq_true,if_false,hx] at this ⊢
  omega
theorem QInv.last {q : TQueue} (h : QInv q) {p : Int} (h0 : 0 <= p) (h6 : p < 6) (hin : q.inn.getD p.toNat false = true) (hc : (qAll q).count p = 0) : QInv (qLast q p) := by
 have hcnt := qLast_cnt h.toQLen h0 h6
 have hlev := h.lev p.toNat (by omega)
 have hk : (q.lev p).toNat < q.ready.length := by rw [h.n1]; unfold TQueue.lev; omega
 refine QInv.of_cnt ⟨by simp [qLast,TQueue.setRd,h.n1],h.n2,h.n3,h.n4,h.n5,h.lev⟩ (fun i x hx => ?_) (fun x => ?_) (fun x hx => ?_)
 ·simp only [qLast,TQueue.setRd] at hx
  show q.lev x = i
  rw [getD_set hk] at hx
  split at hx
  ·rename_i e
   rcases List.mem_append.1 hx with hx | hx
   ·rw [e]; exact h.rdy _ x hx
   ·rw [List.mem_singleton.1 hx,e]; unfold TQueue.lev at hk ⊢; omega
  ·exact h.rdy i x hx
 ·rw [hcnt]
  have := h.cnt x
  split
  ·rename_i e; subst e; omega
  ·omega
 ·rw [hcnt] at hx
  by_cases e : x = p
  ·subst e; exact ⟨h0,h6,hin⟩
  ·rw [if_neg e] at hx; exact h.rngc (by omega)
theorem QInv.tk {q : TQueue} (h : QInv q) (hp : 0 <= (qTake q).1) : (qTake q).1 < 6 /\ q.inn.getD (qTake q).1.toNat false = true /\ (qAll (qTake q).2).count (qTake q).1 = 0 /\ (qAll q).count (qTake q).1 = 1 := by
 have hpos : 0 < (qAll q).count (qTake q).1 := by
  unfold qTake at hp ⊢
  rcases h.first with h0 | ⟨h0,h6,hl0,hl4,l,hl⟩
  ·rw [h0] at hp; simp at hp
  ·rw [if_pos h0]
   refine List.count_pos_iff.2 (List.mem_append_left _ (flat_mem (i := (q.lev (qFirst q)).toNat) ?_))
   rw [show q.ready.getD (q.lev (qFirst q)).toNat [] = qFirst q :: l from hl]
   exact List.mem_cons_self
 have h1 := h.cnt (qTake q).1
 obtain ⟨a,b,c⟩ := h.rngc hpos
 refine ⟨b,c,?_,by omega⟩
 rw [h.takeQ.2,if_pos ⟨hp,rfl⟩]; omega
theorem QInv.turn {q : TQueue} (h : QInv q) : QInv (qTurn q) /\ (qTurn q).inn = q.inn := by
 unfold qTurn
 split
 ·rename_i hp
  obtain ⟨a,b,c,d⟩ := h.tk hp
  obtain ⟨t1,t2,t3,t4,t5,t6,t7,t8⟩ := h.take
  exact ⟨h.takeQ.1.last hp a (by rw [t7]; exact b) c,t7⟩
 ·exact ⟨h,rfl⟩
theorem QInv.sleep {q : TQueue} (h : QInv q) (t : Int) : QInv (qSleep q t) /\ (qSleep q t).inn = q.inn := by
 unfold qSleep
 split
 ·rename_i hp
  obtain ⟨a,b,c,d⟩ := h.tk hp
  obtain ⟨t1,t2,t3,t4,t5,t6,t7,t8⟩ := h.take
  have hT := h.takeQ
  refine ⟨QInv.of_cnt ⟨t1.n1,t1.n2,t1.n3,t1.n4,t1.n5,t1.lev⟩ hT.1.rdy (fun x => ?_) (fun x hx => ?_),t7⟩
  ·rw [qAll_cnt]
   have h1 := hT.1.cnt x
   rw [qAll_cnt,t5] at h1
   simp only [List.map_append,List.map_cons,List.map_nil,List.count_append,List.count_singleton]
   by_cases e : x = (qTake q).1
   ·subst e
    rw [qAll_cnt,t5] at c
    simp; omega
   ·have hb : ((qTake q).1 == x) = false := by simpa using fun e' => e e'.symm
    simp only [hb,Bool.false_eq_true,if_false]; omega
  ·rw [qAll_cnt] at hx
   simp only [List.map_append,List.map_cons,List.map_nil,List.count_append,List.count_singleton] at hx
   show 0 <= x /\ x < 6 /\ (qTake q).2.inn.getD x.toNat false = true
   by_cases e : x = (qTake q).1
   ·rw [e,t7]; exact ⟨hp,a,b⟩
   ·have hb : ((qTake q).1 == x) = false := by simpa using fun e' => e e'.symm
    simp only [hb,Bool.false_eq_true,if_false] at hx
    refine hT.1.rngc ?_
    rw [qAll_cnt,t5]; omega
 ·exact ⟨h,rfl⟩
theorem QInv.endd {q : TQueue} (h : QInv q) : QInv (qEnd q) /\ (qEnd q).inn = if 0 <= (qTake q).1 then q.inn.set (qTake q).1.toNat false else q.inn := by
 unfold qEnd
 split
 ·rename_i hp
  obtain ⟨a,b,c,d⟩ := h.tk hp
  obtain ⟨t1,t2,t3,t4,t5,t6,t7,t8⟩ := h.take
  have hT := h.takeQ
  refine ⟨QInv.of_cnt ⟨t1.n1,t1.n2,t1.n3,t1.n4,by simp [h.n5],t1.lev⟩ hT.1.rdy (fun x => hT.1.cnt x) (fun x hx => ?_),rfl⟩
  have hx' : 0 < (qAll (qTake q).2).count x := hx
  obtain ⟨r1,r2,r3⟩ := hT.1.rngc hx'
  refine ⟨r1,r2,?_⟩
  have hne : x ≠ (qTake q).1 := fun e => by rw [e] at hx'; omega
  show (q.inn.set (qTake q).1.toNat false).getD x.toNat false = true
  rw [getD_set (by rw [h.n5]; omega),if_neg (by omega),<- t7]; exact r3
 ·exact ⟨h,rfl⟩
theorem QInv.post {q : TQueue} (h : QInv q) (s : Int) : QInv (qPost q s) /\ (qPost q s).inn = q.inn := by
 unfold qPost
 split
 ·exact ⟨h,rfl⟩
 ·rename_i hs
  obtain ⟨k,rfl⟩ := Int.eq_ofNat_of_zero_le (show 0 <= s by omega)
  have hk : k < q.waits.length := by rw [h.n2]; omega
  cases hw : q.wt k with
  | nil => exact ⟨{ toQLen := ⟨h.n1,h.n2,by simp [h.n3],h.n4,h.n5,h.lev⟩,rdy := h.rdy,rng := h.rng,nd := h.nd },rfl⟩
  | cons p r =>
   simp only
   have he : q.waits.getD k [] = p :: r := hw
   have hcnt : ∀ x,(qAll { q with waits := q.waits.set (k : Int).toNat r }).count x = (qAll q).count x - (if x = p then 1 else 0) /\ (x = p -> 0 < (qAll q).count x) := by
    intro x
    rw [qAll_cnt,qAll_cnt]
    have := cnt_set (x := x) (ls := q.waits) (k := k) (l := r) hk
    rw [he,List.count_cons] at this
    simp only [Int.toNat_natCast]
    by_cases e : x = p
    ·subst e; simp only [beq_self_eq_true,if_true] at this ⊢; exact ⟨by omega,fun _ => by omega⟩
    ·have hb : (p == x) = false := by simpa using fun e' => e e'.symm
     simp only [hb,Bool.false_eq_true,if_false,e] at this ⊢
     exact ⟨by omega,fun h => h.elim⟩
   have hpos := (hcnt p).2 rfl
   obtain ⟨r1,r2,r3⟩ := h.rngc hpos
   have h1 := h.cnt p
   have hq1 : QInv { q with waits := q.waits.set (k : Int).toNat r } := QInv.of_cnt ⟨h.n1,by simp [h.n2],h.n3,h.n4,h.n5,h.lev⟩ h.rdy (fun x => by rw [(hcnt x).1]; have := h.cnt x; omega) (fun x hx => by rw [(hcnt x).1] at hx; exact h.rngc (by omega))
   exact ⟨hq1.last r1 r2 r3 (by rw [(hcnt p).1,if_pos rfl]; omega),rfl⟩
theorem QInv.wait {q : TQueue} (h : QInv q) (s : Int) : QInv (qWait q s) /\ (qWait q s).inn = q.inn := by
 unfold qWait
 split
 ·exact ⟨h,rfl⟩
 ·rename_i hs
  obtain ⟨k,rfl⟩ := Int.eq_ofNat_of_zero_le (show 0 <= s by omega)
  have hk : k < q.waits.length := by rw [h.n2]; omega
  split
  ·exact ⟨{ toQLen := ⟨h.n1,h.n2,by simp [h.n3],h.n4,h.n5,h.lev⟩,rdy := h.rdy,rng := h.rng,nd := h.nd },rfl⟩
  ·obtain ⟨t1,t2,t3,t4,t5,t6,t7,t8⟩ := h.take
   have hp : 0 <= (qTake q).1 := by
    unfold qTake
    rw [if_pos (by omega)]; show 0 <= qFirst q; omega
   obtain ⟨a,b,c,d⟩ := h.tk hp
   have hT := h.takeQ
   have hcnt : ∀ x,(qAll { (qTake q).2 with waits := q.waits.set (k : Int).toNat (q.wt k ++ [(qTake q).1]) }).count x = (qAll (qTake q).2).count x + (if x = (qTake q).1 then 1 else 0) := by
    intro x
    rw [qAll_cnt,qAll_cnt]
    have := cnt_set (x := x) (ls := q.waits) (k := k) (l := q.wt k ++ [(qTake q).1]) hk
    rw [show q.waits.getD k [] = q.wt k from rfl,List.count_append,List.count_singleton] at this
    simp only [Int.toNat_natCast,t3]
    by_cases e : x = (qTake q).1
    ·subst e; simp only [beq_self_eq_true,if_true] at this ⊢; omega
    ·have hb : ((qTake q).1 == x) = false := by simpa using fun e' => e e'.symm
     simp only [hb,Bool.false_eq_true,if_false,e] at this ⊢
     omega
   refine ⟨QInv.of_cnt ⟨t1.n1,by simp [h.n2],t1.n3,t1.n4,t1.n5,t1.lev⟩ hT.1.rdy (fun x => ?_) (fun x hx => ?_),t7⟩
   ·rw [hcnt]
    have := hT.1.cnt x
    split
    ·rename_i e; subst e; omega
    ·omega
   ·rw [hcnt] at hx
    show 0 <= x /\ x < 6 /\ (qTake q).2.inn.getD x.toNat false = true
    by_cases e : x = (qTake q).1
    ·rw [e,t7]; exact ⟨hp,a,b⟩
    ·rw [if_neg e] at hx; exact hT.1.rngc (by omega)
theorem QInv.ready {q : TQueue} (h : QInv q) (p l : Int) : QInv (qReady q p l) /\ (qReady q p l).inn = if 0 <= p /\ p < 6 /\ q.inn.getD p.toNat false = false /\ 0 <= l /\ l < 4 then q.inn.set p.toNat true else q.inn := by
 unfold qReady
 split
 ·rename_i hc
  obtain ⟨h0,h6,hin,l0,l4⟩ := hc
  have hc0 : (qAll q).count p = 0 := by
   by_cases hx : 0 < (qAll q).count p
   ·have := (h.rngc hx).2.2; rw [hin] at this; cases this
   ·omega
  have hl6 : p.toNat < q.level.length := by rw [h.n4]; omega
  have hi6 : p.toNat < q.inn.length := by rw [h.n5]; omega
  have hq1 : QInv { q with inn := q.inn.set p.toNat true,level := q.level.set p.toNat l } := by
   refine QInv.of_cnt ⟨h.n1,h.n2,h.n3,by simp [h.n4],by simp [h.n5],fun k hk => ?_⟩ (fun i x hx => ?_) (fun x => h.cnt x) (fun x hx => ?_)
   ·show 0 <= (q.level.set p.toNat l).getD k 0 /\ (q.level.set p.toNat l).getD k 0 < 4
    rw [getD_set hl6]
    split
    ·omega
    ·exact h.lev k hk
   ·have hx' : x ∈ q.ready.getD i [] := hx
    have hxp : x ≠ p := fun e => by
     have : 0 < (qAll q).count x := List.count_pos_iff.2 (List.mem_append_left _ (flat_mem hx'))
     rw [e] at this; omega
    have hr := h.rng x (List.mem_append_left _ (flat_mem hx'))
    show (q.level.set p.toNat l).getD x.toNat 0 = i
    rw [getD_set hl6,if_neg (by omega)]
    exact h.rdy i x hx'
   ·have hx' : 0 < (qAll q).count x := hx
    have hr := h.rngc hx'
    have hxp : x ≠ p := fun e => by rw [e] at hx'; omega
    refine ⟨hr.1,hr.2.1,?_⟩
    show (q.inn.set p.toNat true).getD x.toNat false = true
    rw [getD_set hi6,if_neg (by omega)]
    exact hr.2.2
  refine ⟨hq1.last h0 h6 ?_ hc0,rfl⟩
  show (q.inn.set p.toNat true).getD p.toNat false = true
  rw [getD_set hi6,if_pos rfl]
 ·exact ⟨h,rfl⟩
end
section
def PcOk (code : List Int) (pc : Int) : Prop := 0 <= pc /\ pc % 2 = 0 /\ pc + 1 < code.length
def TUnit.me (u : TUnit) (i : Int) : TMethod := u.methods.getD i.toNat default
structure FGood (u : TUnit) (x : TFrame) : Prop where
 m : 0 <= x.method /\ x.method < u.methods.length
 pc : PcOk (u.me x.method).code x.pc
 sl : (x.slots.length : Int) = (u.me x.method).args + (u.me x.method).temps
 st : x.stack.length <= 8
structure PLen (π : TPool) : Prop where
 l : π.l.length = 24
 u : π.used.length = 24
theorem fr_put {π : TPool} {i j : Int} {x : TFrame} (hl : π.l.length = 24) (hi : 0 <= i /\ i < 24) (hj : 0 <= j) : (π.put i x).fr j = if j = i then x else π.fr j := by
 unfold TPool.fr TPool.put
 simp only
 rw [getD_set (by rw [hl]; omega)]
 by_cases h : j = i
 ·subst h; simp
 ·rw [if_neg (by omega),if_neg h]
theorem is_put {π : TPool} {i j : Int} {x : TFrame} : pIs (π.put i x) j = pIs π j := rfl
theorem ChainOf.congr {π π' : TPool} : ∀ {L : List Int} {f : Int},ChainOf π L f -> (∀ x ∈ L,pIs π' x = true /\ (π'.fr x).sender = (π.fr x).sender) -> ChainOf π' L f
 | [],_,h,_ => h
 | i :: L,f,h,hc => by
  obtain ⟨rfl,h1,h2⟩ := h
  have h0 := hc f List.mem_cons_self
  exact ⟨rfl,h0.1,by rw [h0.2]; exact h2.congr fun x hx => hc x (List.mem_cons_of_mem _ hx)⟩
structure Chains (π : TPool) (top : List Int) (C : Nat -> List Int) : Prop where
 of : ∀ p : Nat,p < 6 -> ChainOf π (C p) (top.getD p 0) /\ (C p).Nodup
 dis : ∀ p p' : Nat,p < 6 -> p' < 6 -> p ≠ p' -> ∀ x ∈ C p,x ∉ C p'
structure PInvX (X : List Int) (u : TUnit) (π : TPool) (top : List Int) (q : TQueue) : Prop where
 len : PLen π
 top6 : top.length = 6
 fr : ∀ i : Int,i ∉ X -> pIs π i = true -> FGood u (π.fr i)
 qi : QInv q
 inn : ∀ p : Nat,p < 6 -> (q.inn.getD p false = true ↔ 0 <= top.getD p 0)
 ch : ∃ C,Chains π top C
abbrev PInv (u : TUnit) (π : TPool) (top : List Int) (q : TQueue) : Prop := PInvX [] u π top q
theorem PInvX.good {u : TUnit} {π : TPool} {top : List Int} {q : TQueue} (h : PInv u π top q) (i : Int) (hi : pIs π i = true) : FGood u (π.fr i) := h.fr i (by simp) hi
theorem PInvX.put {X : List Int} {u : TUnit} {π : TPool} {top : List Int} {q : TQueue} {i : Int} (h : PInvX X u π top q) (hX : ∀ j ∈ X,j = i) {x : TFrame} (hi : pIs π i = true) (hx : FGood u x) (hs : x.sender = (π.fr i).sender) : PInv u (π.put i x) top q := by
 have hr := pIs_range hi
 obtain ⟨C,hC⟩ := h.ch
 have hfr : ∀ j,0 <= j -> (π.put i x).fr j = if j = i then x else π.fr j := fun j hj => fr_put h.len.l hr hj
 refine ⟨⟨by simp [TPool.put,h.len.l],h.len.u⟩,h.top6,fun j _ hj => ?_,h.qi,h.inn,C,fun p hp => ⟨(hC.of p hp).1.congr fun y hy => ?_,(hC.of p hp).2⟩,hC.dis⟩
 ·rw [is_put] at hj
  rw [hfr j (pIs_range hj).1]
  split
  ·exact hx
  ·rename_i e; exact h.fr j (fun hj' => e (hX j hj')) hj
 ·have hu := (hC.of p hp).1.used y hy
  refine ⟨by rw [is_put]; exact hu,?_⟩
  rw [hfr y (pIs_range hu).1]
  split
  ·rename_i e; rw [e,hs]
  ·rfl
theorem PInvX.putX {u : TUnit} {π : TPool} {top : List Int} {q : TQueue} {i : Int} (h : PInv u π top q) {x : TFrame} (hi : pIs π i = true) (hs : x.sender = (π.fr i).sender) : PInvX [i] u (π.put i x) top q := by
 have hr := pIs_range hi
 obtain ⟨C,hC⟩ := h.ch
 have hfr : ∀ j,0 <= j -> (π.put i x).fr j = if j = i then x else π.fr j := fun j hj => fr_put h.len.l hr hj
 refine ⟨⟨by simp [TPool.put,h.len.l],h.len.u⟩,h.top6,fun j hX hj => ?_,h.qi,h.inn,C,fun p hp => ⟨(hC.of p hp).1.congr fun y hy => ?_,(hC.of p hp).2⟩,hC.dis⟩
 ·rw [is_put] at hj
  rw [hfr j (pIs_range hj).1,if_neg (by simpa using hX)]
  exact h.good j hj
 ·have hu := (hC.of p hp).1.used y hy
  refine ⟨by rw [is_put]; exact hu,?_⟩
  rw [hfr y (pIs_range hu).1]
  split
  ·rename_i e; rw [e,hs]
  ·rfl
theorem PInvX.weak {X : List Int} {u : TUnit} {π : TPool} {top : List Int} {q : TQueue} (h : PInv u π top q) : PInvX X u π top q := ⟨h.len,h.top6,fun i _ hi => h.good i hi,h.qi,h.inn,h.ch⟩
theorem PInvX.queue {X : List Int} {u : TUnit} {π : TPool} {top : List Int} {q q' : TQueue} (h : PInvX X u π top q) (hq : QInv q') (hi : q'.inn = q.inn) : PInvX X u π top q' := ⟨h.len,h.top6,h.fr,hq,fun p hp => by rw [hi]; exact h.inn p hp,h.ch⟩
theorem gives_used (L : List Int) (i : Int) : ∀ π : TPool,pIs (L.foldl pGive π) i = true -> pIs π i = true := by
 induction L with
 | nil => intro π h; exact h
 | cons x L ih =>
  intro π h
  have h1 := ih (pGive π x) h
  by_cases e : x = i
  ·subst e
   unfold pGive at h1
   split at h1
   ·rename_i hx; exact hx
   ·exact h1
  ·rwa [pIs_give e] at h1
theorem give_not {π : TPool} {i : Int} : pIs (pGive π i) i = false := by
 unfold pGive
 split
 ·rename_i hi
  have hr := pIs_range hi
  unfold pIs
  simp only [List.getD_eq_getElem?_getD]
  by_cases hl : i.toNat < π.used.length
  ·simp [hl]
  ·simp [hl]
 ·rename_i h; simpa using h
theorem gives_not {i : Int} (L : List Int) (hi : i ∈ L) : ∀ π : TPool,pIs (L.foldl pGive π) i = true -> False := by
 induction L with
 | nil => simp at hi
 | cons x L ih =>
  intro π h
  rcases List.mem_cons.1 hi with rfl | hm
  ·have := gives_used L i (pGive π i) h
   rw [give_not] at this; cases this
  ·exact ih hm _ h
theorem gives_len (L : List Int) : ∀ π : TPool,(L.foldl pGive π).used.length = π.used.length := by
 induction L with
 | nil => intro π; rfl
 | cons x L ih => intro π; rw [List.foldl_cons,ih]; unfold pGive; split <;> simp
theorem Chains.gives {π : TPool} {top : List Int} {C : Nat -> List Int} (hC : Chains π top C) (ht : top.length = 6) {p : Nat} (hp : p < 6) {l1 L2 : List Int} (hl : C p = l1 ++ L2) {t : Int} (hL : ChainOf π L2 t) : Chains (l1.foldl pGive π) (top.set p t) fun j => if j = p then L2 else C j := by
 have hnd := (hC.of p hp).2
 rw [hl] at hnd
 have key : ∀ y,y ∉ l1 -> pIs π y = true -> pIs (l1.foldl pGive π) y = true /\ ((l1.foldl pGive π).fr y).sender = (π.fr y).sender := fun y hy hu => ⟨by rw [gives_is _ _ hy]; exact hu,by rw [gives_fr]⟩
 have hsub : ∀ j y,j < 6 -> y ∈ (if j = p then L2 else C j) -> y ∈ C j := fun j y _ hy => by
  split at hy
  ·rename_i e; rw [e,hl]; exact List.mem_append_right _ hy
  ·exact hy
 refine ⟨fun j hj => ?_,fun j j' hj hj' hne x hx hx' => hC.dis j j' hj hj' hne x (hsub j x hj hx) (hsub j' x hj' hx')⟩
 rw [getD_set (by rw [ht]; exact hp)]
 by_cases e : j = p
 ·simp only [e,if_true]
  exact ⟨hL.congr fun y hy => key y (fun h1 => (List.nodup_append.1 hnd).2.2 y h1 y hy rfl) (hL.used y hy),(List.nodup_append.1 hnd).2.1⟩
 ·simp only [e,if_false]
  exact ⟨(hC.of j hj).1.congr fun y hy => key y (fun h1 => hC.dis j p hj hp e y hy (by rw [hl]; exact List.mem_append_left _ h1)) ((hC.of j hj).1.used y hy),(hC.of j hj).2⟩
theorem PInvX.gives {X : List Int} {u : TUnit} {π : TPool} {top : List Int} {q : TQueue} (h : PInvX X u π top q) {C : Nat -> List Int} (hC : Chains π top C) {p : Nat} (hp : p < 6) (h0 : 0 <= top.getD p 0) {l1 L2 : List Int} (hl : C p = l1 ++ L2) {t : Int} (hL : ChainOf π L2 t) (ht : 0 <= t) (hX : ∀ y ∈ X,y ∈ l1) : PInv u (l1.foldl pGive π) (top.set p t) q := by
 refine ⟨⟨by rw [gives_l]; exact h.len.l,by rw [gives_len]; exact h.len.u⟩,by simp [h.top6],fun i _ hi => by rw [gives_fr]; exact h.fr i (fun hx => gives_not l1 (hX i hx) π hi) (gives_used _ _ _ hi),h.qi,fun j hj => ?_,_,hC.gives h.top6 hp hl hL⟩
 rw [getD_set (by rw [h.top6]; exact hp),h.inn j hj]
 split
 ·rename_i e; rw [e]; exact ⟨fun _ => ht,fun _ => h0⟩
 ·exact Iff.rfl
theorem PInvX.ends {X : List Int} {u : TUnit} {π : TPool} {top : List Int} {q : TQueue} (h : PInvX X u π top q) {C : Nat -> List Int} (hC : Chains π top C) {p : Nat} (hp : p < 6) (hq : (qTake q).1 = (p : Int)) {l1 : List Int} (hl : C p = l1) (hX : ∀ y ∈ X,y ∈ l1) : PInv u (l1.foldl pGive π) (top.set p (-1)) (qEnd q) := by
 obtain ⟨e1,e2⟩ := h.qi.endd
 have hC' := hC.gives h.top6 hp (l1 := l1) (L2 := []) (t := -1) (by rw [hl]; simp) (by show (-1 : Int) < 0; omega)
 refine ⟨⟨by rw [gives_l]; exact h.len.l,by rw [gives_len]; exact h.len.u⟩,by simp [h.top6],fun i _ hi => by rw [gives_fr]; exact h.fr i (fun hx => gives_not l1 (hX i hx) π hi) (gives_used _ _ _ hi),e1,fun j hj => ?_,_,hC'⟩
 rw [e2,hq,if_pos (by omega),getD_set (by rw [h.qi.n5]; omega),getD_set (by rw [h.top6]; exact hp)]
 by_cases e : j = p
 ·subst e; simp
 ·rw [if_neg (by simpa using e),if_neg e]; exact h.inn j hj
theorem indexB_get {v : Bool} : ∀ {l : List Bool},0 <= indexB v l -> l[(indexB v l).toNat]? = some v
 | [],h => by simp [indexB] at h
 | x :: l,h => by
  have ih := indexB_get (v := v) (l := l)
  unfold indexB at h ⊢
  by_cases e : (v == x) = true
  ·rw [if_pos e]; simpa using (beq_iff_eq.1 e).symm
  ·rw [if_neg e] at h ⊢
   by_cases e2 : indexB v l < 0
   ·rw [if_pos e2] at h; omega
   ·rw [if_neg e2] at h ⊢
    rw [show (indexB v l + 1).toNat = (indexB v l).toNat + 1 by omega,List.getElem?_cons_succ]
    exact ih (by omega)
theorem indexB_mem {v : Bool} : ∀ {l : List Bool},v ∈ l -> 0 <= indexB v l
 | [],h => by simp at h
 | x :: l,h => by
  have ih := indexB_mem (v := v) (l := l)
  unfold indexB
  by_cases e : (v == x) = true
  ·rw [if_pos e]; omega
  ·rw [if_neg e]
   have : v ∈ l := by
    rcases List.mem_cons.1 h with h | h
    ·exact absurd (by rw [h]; simp) e
    ·exact h
   have := ih this
   rw [if_neg (by omega)]; omega
theorem pFree_pos {π : TPool} (h : pFree π ≠ 0) : 0 <= indexB false π.used := indexB_mem (List.count_pos_iff.1 (by unfold pFree at h; omega))
structure Taken (π π' : TPool) (i : Int) (x : TFrame) : Prop where
 rng : 0 <= i /\ i < 24
 was : pIs π i = false
 is : ∀ j,pIs π' j = (decide (j = i) || pIs π j)
 fr : ∀ j,0 <= j -> π'.fr j = if j = i then x else π.fr j
 len : PLen π'
theorem pTake_taken {π : TPool} (hl : PLen π) (hf : pFree π ≠ 0) {method self sender home : Int} {slots : List Int} (hs : slots.length <= 8) :
  ∃ i,(pTake π method self slots sender home).1 = i /\ Taken π (pTake π method self slots sender home).2 i ⟨method,0,sender,if home = -1 then i else home,IntKind.wrap .i64 (π.serial + 1),self,slots,[]⟩ := by
 have h0 := pFree_pos hf
 have h1 := indexB_lt h0
 have hg := indexB_get h0
 rw [hl.u] at h1
 unfold pTake
 generalize indexB false π.used = i at *
 simp only
 rw [if_neg (by omega)]
 refine ⟨i,rfl,⟨by omega,?_,fun j => ?_,fun j hj => ?_,⟨by simp [hl.l],by simp [hl.u]⟩⟩⟩
 ·simp [pIs,List.getD_eq_getElem?_getD,hg]
 ·unfold pIs
  simp only
  rw [getD_set (by rw [hl.u]; omega)]
  by_cases e : j = i
  ·subst e; simp; omega
  ·simp only [e,decide_false,Bool.false_or]
   by_cases hj : 0 <= j
   ·rw [if_neg (by omega)]
   ·simp [hj]
 ·unfold TPool.fr
  simp only
  rw [getD_set (by rw [hl.l]; omega)]
  by_cases e : j = i
  ·subst e; simp
  ·rw [if_neg (by omega),if_neg e]
theorem PInvX.take {u : TUnit} {π π' : TPool} {top : List Int} {q q' : TQueue} (h : PInv u π top q) {C : Nat -> List Int} (hC : Chains π top C) {i : Int} {x : TFrame} (ht : Taken π π' i x) (hx : FGood u x) {p : Nat} (hp : p < 6) {L : List Int} (hL : L = [] /\ x.sender < 0 \/ L = C p /\ x.sender = top.getD p 0)
  (hq : QInv q') (hin : ∀ j : Nat,j < 6 -> q'.inn.getD j false = if j = p then true else q.inn.getD j false) (hsub : ∀ y ∈ L,y ∈ C p) : PInv u π' (top.set p i) q' := by
 have hnot : ∀ j : Nat,j < 6 -> i ∉ C j := fun j hj hm => by
  have := (hC.of j hj).1.used i hm
  rw [ht.was] at this; cases this
 have hkeep : ∀ y,y ≠ i -> pIs π y = true -> pIs π' y = true /\ (π'.fr y).sender = (π.fr y).sender := fun y hy hu => ⟨by rw [ht.is,hu]; simp,by rw [ht.fr y (pIs_range hu).1,if_neg hy]⟩
 refine ⟨ht.len,by simp [h.top6],fun j _ hj => ?_,hq,fun j hj => ?_,fun j => if j = p then i :: L else C j,fun j hj => ?_,fun j j' hj hj' hne y hy hy' => ?_⟩
 ·rw [ht.fr j (pIs_range hj).1]
  split
  ·exact hx
  ·rename_i e
   rw [ht.is] at hj
   simp only [e,decide_false,Bool.false_or] at hj
   exact h.good j hj
 ·rw [hin j hj,getD_set (by rw [h.top6]; exact hp)]
  split
  ·exact ⟨fun _ => ht.rng.1,fun _ => rfl⟩
  ·exact h.inn j hj
 ·rw [getD_set (by rw [h.top6]; exact hp)]
  by_cases e : j = p
  ·subst e
   simp only [if_true]
   refine ⟨⟨rfl,by rw [ht.is]; simp,?_⟩,?_⟩
   ·rw [ht.fr i ht.rng.1,if_pos rfl]
    rcases hL with ⟨rfl,hs⟩ | ⟨rfl,hs⟩
    ·exact hs
    ·rw [hs]
     exact (hC.of j hj).1.congr fun y hy => hkeep y (fun e => hnot j hj (e ▸ hy)) ((hC.of j hj).1.used y hy)
   ·refine List.nodup_cons.2 ⟨fun hm => hnot j hj (hsub i hm),?_⟩
    rcases hL with ⟨rfl,_⟩ | ⟨rfl,_⟩
    ·exact List.nodup_nil
    ·exact (hC.of j hj).2
  ·simp only [e,if_false]
   exact ⟨(hC.of j hj).1.congr fun y hy => hkeep y (fun e' => hnot j hj (e' ▸ hy)) ((hC.of j hj).1.used y hy),(hC.of j hj).2⟩
 ·have ex : ∀ k,k < 6 -> y ∈ (if k = p then i :: L else C k) -> y = i /\ k = p \/ y ∈ C k := fun k _ hk => by
   split at hk
   ·rename_i e
    rcases List.mem_cons.1 hk with e' | hk
    ·exact .inl ⟨e',e⟩
    ·exact .inr (e ▸ hsub y hk)
   ·exact .inr hk
  rcases ex j hj hy with ⟨e1,e2⟩ | h1
  ·rcases ex j' hj' hy' with ⟨e3,e4⟩ | h2
   ·exact hne (e2.trans e4.symm)
   ·exact hnot j' hj' (e1 ▸ h2)
  ·rcases ex j' hj' hy' with ⟨e3,e4⟩ | h2
   ·exact hnot j hj (e3 ▸ h1)
   ·exact hC.dis j j' hj hj' hne y h1 h2
end
section
def Fits (u : TUnit) (sel m : Int) : Prop := 0 <= m /\ m < u.methods.length /\ nArgs (u.names.getD sel.toNat ⟨#[]⟩) = (u.me m).args
def DictOk (u : TUnit) (D : TDict) : Prop := ∀ x ∈ D.l,x.used = true -> Fits u x.sel x.method
def CacheOk (u : TUnit) (C : TCache) : Prop := ∀ x ∈ C.l,x.used = true -> Fits u x.sel x.method
theorem dPutFrom_ok {u : TUnit} {sel m : Int} (hf : Fits u sel m) : ∀ (f : Nat) (p : Int) {D : TDict},DictOk u D -> DictOk u (dPutFrom D sel m f p).2
 | 0,_,_,h => h
 | f + 1,p,D,h => by
  unfold dPutFrom
  simp only
  split
  ·exact dPutFrom_ok hf f (p + 1) h
  ·intro x hx hu
   rcases List.mem_or_eq_of_mem_set hx with hx | rfl
   ·exact h x hx hu
   ·exact hf
theorem dPut_ok {u : TUnit} {sel m : Int} (hf : Fits u sel m) {D : TDict} (h : DictOk u D) : DictOk u (dPut D sel m).2 := by
 unfold dPut
 split
 ·exact h
 ·exact dPutFrom_ok hf 4 0 h
theorem dOfFrom_ok {u : TUnit} : ∀ {l : List TBind} {D D' : TDict},(∀ b ∈ l,Fits u b.sel b.method) -> DictOk u D -> dOfFrom D l = some D' -> DictOk u D'
 | [],D,D',_,h,e => by simp only [dOfFrom,Z3] at e; rw [<- e]; exact h
 | b :: r,D,D',hb,h,e => by
  unfold dOfFrom at e
  split at e
  ·exact dOfFrom_ok (fun x hx => hb x (List.mem_cons_of_mem _ hx)) (dPut_ok (hb b List.mem_cons_self) h) e
  ·cases e
theorem dNew_ok (u : TUnit) : DictOk u dNew := fun x hx hu => by
 rw [List.eq_of_mem_replicate hx] at hu; cases hu
theorem dFindFrom_ok {u : TUnit} {D : TDict} (h : DictOk u D) {sel : Int} : ∀ (f : Nat) (p : Int),0 <= (dFindFrom D sel f p).1 -> Fits u sel (dFindFrom D sel f p).1
 | 0,p,h0 => by simp [dFindFrom] at h0
 | f + 1,p,h0 => by
  unfold dFindFrom at h0 ⊢
  simp only at h0 ⊢
  split at h0
  ·simp at h0
  ·rename_i hu
   rw [if_neg hu]
   split at h0
   ·rename_i hs
    rw [if_pos hs]
    simp only [ZL,ZO] at hu
    have hm : D.l.getD (dAt sel p).toNat default ∈ D.l := by
     by_cases hl : (dAt sel p).toNat < D.l.length
     ·exact List.mem_of_getElem? (getD_some hl)
     ·rw [List.getD_eq_getElem?_getD,List.getElem?_eq_none (by omega)] at hu; cases hu
    have := h _ hm hu
    rw [hs] at this
    exact this
   ·rename_i hs
    rw [if_neg hs]
    exact dFindFrom_ok h f (p + 1) h0
theorem dFind_ok {u : TUnit} {D : TDict} (h : DictOk u D) {sel : Int} (h0 : 0 <= (dFind D sel).1) : Fits u sel (dFind D sel).1 := by
 unfold dFind at h0 ⊢
 split at h0
 ·simp at h0
 ·rename_i hs; rw [if_neg hs]; exact dFindFrom_ok h 4 0 h0
theorem uDicts_ok {u : TUnit} (hg : UGood u) : ∀ D ∈ uDicts u,DictOk u D := by
 intro D hD
 obtain ⟨c,hc,rfl⟩ := List.mem_map.1 hD
 obtain ⟨i,hi⟩ := List.getElem?_of_mem hc
 have hb : ∀ b ∈ c.binds,Fits u b.sel b.method := fun b hb => by
  have h1 := (hg.classes.all i c hi).bnd.rng b hb
  exact ⟨h1.2.2.1,h1.2.2.2,hg.binds c hc b hb⟩
 cases hd : dOf c.binds with
 | none => exact dNew_ok u
 | some D => exact dOfFrom_ok hb (dNew_ok u) hd
theorem caGet_ok {u : TUnit} {C : TCache} (h : CacheOk u C) {c sel : Int} : ((caGet C c sel).1.2 = true -> Fits u sel (caGet C c sel).1.1) /\ CacheOk u (caGet C c sel).2 := by
 unfold caGet
 split
 ·rename_i hh
  refine ⟨fun _ => ?_,h⟩
  simp only [caHas,Bool.and_eq_true,ZJ] at hh
  obtain ⟨h1,h2,h3⟩ := hh
  have hm : C.l.getD (caAt c sel).toNat default ∈ C.l := by
   by_cases hl : (caAt c sel).toNat < C.l.length
   ·exact List.mem_of_getElem? (getD_some hl)
   ·rw [List.getD_eq_getElem?_getD,List.getElem?_eq_none (by omega)] at h1; cases h1
  have := h _ hm h1
  rw [h3] at this
  exact this
 ·exact ⟨fun h' => (by cases h'),h⟩
theorem caPut_ok {u : TUnit} {C : TCache} (h : CacheOk u C) {c sel m : Int} (hf : Fits u sel m) : CacheOk u (caPut C c sel m) := by
 intro x hx hu
 rcases List.mem_or_eq_of_mem_set hx with hx | rfl
 ·exact h x hx hu
 ·exact hf
theorem mFindIn_ok {α : Type} {u : TUnit} {c sel : Int} : ∀ (l : List Int) {σ : TM α},(∀ D ∈ σ.dicts,DictOk u D) -> CacheOk u σ.cache -> (0 <= (mFindIn c sel σ l).1 -> Fits u sel (mFindIn c sel σ l).1) /\ CacheOk u (mFindIn c sel σ l).2.cache
 | [],σ,_,h => ⟨fun h0 => by simp [mFindIn] at h0,h⟩
 | i :: l,σ,hd,h => by
  have hD : DictOk u (σ.dicts.getD i.toNat dNew) := by
   by_cases hl : i.toNat < σ.dicts.length
   ·exact hd _ (List.mem_of_getElem? (getD_some hl))
   ·rw [List.getD_eq_getElem?_getD,List.getElem?_eq_none (by omega)]; exact dNew_ok u
  unfold mFindIn
  split
  ·rename_i h0
   exact ⟨fun _ => dFind_ok hD h0,caPut_ok h (dFind_ok hD h0)⟩
  ·exact mFindIn_ok l (σ := { σ with looks := _ }) hd h
theorem mFind_ok {α : Type} {u : TUnit} {σ : TM α} (hd : ∀ D ∈ σ.dicts,DictOk u D) (h : CacheOk u σ.cache) (c sel : Int) : (0 <= (mFind σ c sel).1 -> Fits u sel (mFind σ c sel).1) /\ CacheOk u (mFind σ c sel).2.cache := by
 obtain ⟨h1,h2⟩ := caGet_ok h (c := c) (sel := sel)
 unfold mFind
 split
 ·exact ⟨fun h0 => by simp at h0,h⟩
 ·split
  ·rename_i hg; exact ⟨fun _ => h1 hg,h2⟩
  ·exact mFindIn_ok _ (σ := { σ with cache := (caGet σ.cache c sel).2,why := 2 }) hd h2
end
section
theorem fetch_eq {code : List Int} {pc : Int} (h : PcOk code pc) : cFetch code pc = (code.getD pc.toNat 0,code.getD (pc.toNat + 1) 0,true) := by
 obtain ⟨h0,h1,h2⟩ := h
 unfold cFetch
 rw [if_neg (by omega),if_neg (by omega),if_neg (by omega)]
theorem inst_at {m : TMethod} {n c k : Nat} (hg : MGood m n c k) {pc : Int} (h : PcOk m.code pc) : cInst m (cFetch m.code pc).1 (cFetch m.code pc).2.1 pc = true := by
 obtain ⟨h0,h1,h2⟩ := h
 obtain ⟨j,hj⟩ : ∃ j : Nat,pc = ((2 * j : Nat) : Int) := ⟨(pc / 2).toNat,by omega⟩
 subst hj
 exact (hg.inst j (by omega)).2
theorem pc_next {m : TMethod} {n c k : Nat} (hg : MGood m n c k) {pc : Int} (h : PcOk m.code pc) (ho : (cFetch m.code pc).1 ≠ 14 /\ (cFetch m.code pc).1 ≠ 19 /\ (cFetch m.code pc).1 ≠ 16) : PcOk m.code (pc + 2) := by
 have he := hg.ends
 rw [fetch_eq h] at ho
 obtain ⟨h0,h1,h2⟩ := h
 unfold cEnds at he
 split at he
 ·cases he
 ·split at he
  ·cases he
  ·rename_i e1 e2
   refine ⟨by omega,by omega,?_⟩
   by_cases hl : pc + 2 + 1 < m.code.length
   ·exact hl
   ·exfalso
    rw [show pc.toNat = m.code.length - 2 by omega] at ho
    simp only [Bool.or_eq_true,ZJ] at he
    omega
theorem ends_even {code : List Int} (he : cEnds code = true) : code.length % 2 = 0 := by
 unfold cEnds at he
 split at he
 ·cases he
 ·split at he
  ·cases he
  ·omega
theorem pc_jump {m : TMethod} {n c k : Nat} (hg : MGood m n c k) (hb : Bytes m.code) {pc : Int} (h : PcOk m.code pc) (ho : (cFetch m.code pc).1 = 15 \/ (cFetch m.code pc).1 = 17) : PcOk m.code (pc + 2 + 2 * (cFetch m.code pc).2.1) := by
 have hi := inst_at hg h
 have hr := cFetch_range hb pc
 have he := ends_even hg.ends
 unfold cInst at hi
 rw [if_neg (by omega),if_neg (by omega),if_neg (by omega),if_neg (by omega),if_neg (by omega),if_neg (by omega),if_pos ho,decide_eq_true_eq] at hi
 obtain ⟨h0,h1,h2⟩ := h
 exact ⟨by omega,by omega,by omega⟩
theorem pc_back {m : TMethod} {n c k : Nat} (hg : MGood m n c k) (hb : Bytes m.code) {pc : Int} (h : PcOk m.code pc) (ho : (cFetch m.code pc).1 = 16) : PcOk m.code (pc - 2 * (cFetch m.code pc).2.1) := by
 have hi := inst_at hg h
 have hr := cFetch_range hb pc
 unfold cInst at hi
 rw [if_neg (by omega),if_neg (by omega),if_neg (by omega),if_neg (by omega),if_neg (by omega),if_neg (by omega),if_neg (by omega),if_pos ho,decide_eq_true_eq] at hi
 obtain ⟨h0,h1,h2⟩ := h
 exact ⟨by omega,by omega,by omega⟩
end
section
theorem ins_at : ∀ {L : List (Int × Int)} {j : Nat} {x : Int × Int},L[j]? = some x -> (ins L)[2 * j]? = some x.1 /\ (ins L)[2 * j + 1]? = some x.2
 | [],j,x,h => by simp at h
 | a :: r,0,x,h => by simp at h; subst h; exact ⟨rfl,rfl⟩
 | a :: r,j + 1,x,h => by
  have ih := ins_at (L := r) (j := j) (x := x) (by simpa using h)
  have e : ins (a :: r) = a.1 :: a.2 :: ins r := rfl
  rw [e,show 2 * (j + 1) = 2 * j + 1 + 1 by omega,List.getElem?_cons_succ,List.getElem?_cons_succ,List.getElem?_cons_succ,List.getElem?_cons_succ]
  exact ih
theorem GL.at_ : ∀ {L : List (Int × Int)} {j : Nat} {x : Int × Int},GL L -> L[j]? = some x -> (0 <= x.1 /\ x.1 < 256 /\ 0 <= x.2 /\ x.2 < 256) /\ (Iok x.1 x.2 \/ x.1 = 17 /\ x.2 = 1 /\ j + 2 < L.length)
 | [],j,x,_,h => by simp at h
 | a :: r,0,x,hg,h => by
  simp at h; subst h
  exact ⟨hg.1,hg.2.1.imp id fun e => ⟨e.1,e.2.1,by have := e.2.2; simp only [List.length_cons]; omega⟩⟩
 | a :: r,j + 1,x,hg,h => by
  obtain ⟨h1,h2⟩ := GL.at_ (L := r) (j := j) (x := x) hg.2.2 (by simpa using h)
  exact ⟨h1,h2.imp id fun e => ⟨e.1,e.2.1,by have := e.2.2; simp only [List.length_cons]; omega⟩⟩
theorem takes_pos {a : Int} (h : 0 <= a /\ a < 24) : 0 <= cTakes a := by
 unfold cTakes
 split
 ·omega
 ·split
  ·omega
  ·split
   ·omega
   ·split <;> omega
theorem LitAt.lit {c : Nat} {i : Nat} {v : TVal} (h : LitAt (c : Int) i v) : cLit v 6 c 9 = true := by
 unfold cLit
 rcases h with ⟨_,hk,h1,h2⟩ | ⟨_,_,hk,hn⟩ | ⟨_,_,hk,h1,h2⟩ | ⟨_,_,hk,hn⟩ <;> rw [hk]
 ·simp; omega
 ·simp; omega
 ·simp; omega
 ·simp; omega
theorem TMok.good {c : Nat} {args : Int} {m : TMethod} (h : TMok (c : Int) args m) (ha : 0 <= args /\ args <= 6) : MGood m 6 c 9 := by
 obtain ⟨L,hc,hg,hl,L0,z,hz,hlast⟩ := h.code
 have hlen : m.code.length = 2 * L.length := by rw [hc,ins_len]
 have hlz : L.length = L0.length + 1 := by rw [hz]; simp
 have h1 := h.args; have h2 := h.temps
 obtain ⟨h3,h4⟩ := h.lits
 refine ⟨?_,?_,fun v hv => ?_,fun j hj => ?_⟩
 ·unfold cShort
  simp only [Bool.and_eq_true,ZJ]
  omega
 ·unfold cEnds
  rw [if_neg (by omega),if_neg (by omega)]
  have : L[L0.length]? = some z := by rw [hz]; simp
  have e := (ins_at this).1
  have : m.code.getD (m.code.length - 2) 0 = z.1 := by
   rw [List.getD_eq_getElem?_getD,hc,ins_len,hlz,show 2 * (L0.length + 1) - 2 = 2 * L0.length by omega,e]; rfl
  simp only [this]
  rcases hlast with e | e <;> rw [e] <;> rfl
 ·obtain ⟨i,hi⟩ := List.getElem?_of_mem hv
  exact (h4 i v hi).lit
 ·obtain ⟨x,hx⟩ : ∃ x,L[j]? = some x := ⟨L[j]'(by omega),List.getElem?_eq_getElem _⟩
  obtain ⟨e1,e2⟩ := ins_at hx
  have ef : cFetch m.code ((2 * j : Nat) : Int) = (x.1,x.2,true) := by
   rw [fetch_eq ⟨by omega,by omega,by omega⟩]
   simp only [Int.toNat_natCast,List.getD_eq_getElem?_getD]
   rw [hc,e1,e2]; rfl
  rw [ef]
  refine ⟨rfl,?_⟩
  obtain ⟨⟨b1,b2,b3,b4⟩,hi⟩ := hg.at_ hx
  generalize x.1 = op at *
  generalize x.2 = arg at *
  have hlit : ∀ k : Int,0 <= arg -> arg < 14 -> (arg < 4 -> k = 3) -> (4 <= arg /\ arg < 10 -> k = 5) -> (10 <= arg /\ arg < 12 -> k = 6) -> (12 <= arg -> k = 7) -> cLiteral m.lits arg k = true := by
   intro k k1 k2 k3 k4 k5 k6
   have := h4 arg.toNat _ (getD_some (d := default) (by omega))
   unfold cLiteral
   simp only [Bool.and_eq_true,ZJ]
   refine ⟨by omega,?_⟩
   generalize m.lits.getD arg.toNat default = v at *
   rcases this with h | h | h | h <;> omega
  unfold cInst
  have hw : IntKind.wrap .i64 (m.args + m.temps) = m.args + m.temps := wrap_id (by omega) (by omega)
  rcases hi with (⟨e,e'⟩ | ⟨e,e'⟩ | ⟨e,e'⟩ | ⟨e,e',e''⟩ | ⟨e,e',e''⟩ | ⟨e,e',e''⟩ | ⟨e,e'⟩ | ⟨e,e'⟩ | e | e) | ⟨e,e',e''⟩
  ·rw [if_pos e,hw]; simp; omega
  ·rw [if_neg (by omega),if_pos e]; simp; omega
  ·rw [if_neg (by omega),if_neg (by omega),if_pos e]; exact hlit 3 b3 (by omega) (by omega) (by omega) (by omega) (by omega)
  ·rw [if_neg (by omega),if_neg (by omega),if_neg (by omega),if_pos e]; exact hlit 5 b3 (by omega) (by omega) (by omega) (by omega) (by omega)
  ·rw [if_neg (by omega),if_neg (by omega),if_neg (by omega),if_neg (by omega),if_pos e,hlit 6 b3 (by omega) (by omega) (by omega) (by omega) (by omega)]
   have := h4 arg.toNat _ (getD_some (d := default) (by omega))
   simp only [Bool.true_and,ZJ]
   generalize m.lits.getD arg.toNat default = v at *
   rcases this with h | h | h | h <;> omega
  ·rw [if_neg (by omega),if_neg (by omega),if_neg (by omega),if_neg (by omega),if_neg (by omega),if_pos e]; exact hlit 7 b3 (by omega) (by omega) (by omega) (by omega) (by omega)
  ·rw [if_neg (by omega),if_neg (by omega),if_neg (by omega),if_neg (by omega),if_neg (by omega),if_neg (by omega),if_neg (by omega),if_neg (by omega),if_pos e]; simp; exact takes_pos ⟨b3,e'⟩
  ·rw [if_neg (by omega),if_neg (by omega),if_neg (by omega),if_neg (by omega),if_neg (by omega),if_neg (by omega),if_neg (by omega),if_neg (by omega),if_neg (by omega)]; simp; omega
  ·rw [e]; rfl
  ·rw [e]; rfl
  ·rw [e,e']; simp; omega
def clsNames : List ByteArray := [⟨#[66,108,111,99,107]⟩,⟨#[65,114,114,97,121]⟩,⟨#[67,48]⟩,⟨#[67,49]⟩,⟨#[67,50]⟩]
def ClassAt (l : List TClass) (i : Nat) (x : TClass) : Prop := x.name = clsNames.getD i ⟨#[]⟩ /\ (i = 0 /\ x.super = -1 /\ x.fields = 4 \/ i = 1 /\ x.super = -1 /\ x.fields = 0 \/ 2 <= i /\ 0 <= x.fields /\ x.fields <= 2 * (i : Int) /\ (x.super = -1 \/ 2 <= x.super /\ x.super < i /\ (l.getD x.super.toNat default).fields <= x.fields))
inductive BP : Nat -> List TBind -> Prop
 | nil : BP 0 []
 | no {s : Nat} {B : List TBind} : BP s B -> BP (s + 1) B
 | yes {s : Nat} {B : List TBind} : BP s B -> BP (s + 1) (B ++ [⟨(s : Int),(s : Int)⟩])
def allB : Nat -> List (List TBind)
 | 0 => [[]]
 | s + 1 => allB s ++ (allB s).map fun B => B ++ [⟨(s : Int),(s : Int)⟩]
theorem BP.mem {s : Nat} {B : List TBind} (h : BP s B) : B ∈ allB s := by
 induction h with
 | nil => simp [allB]
 | no _ ih => exact List.mem_append_left _ ih
 | yes _ ih => exact List.mem_append_right _ (List.mem_map_of_mem ih)
theorem BP.rng {s : Nat} {B : List TBind} (h : BP s B) : ∀ b ∈ B,b.method = b.sel /\ 0 <= b.sel /\ b.sel < s := by
 induction h with
 | nil => simp
 | no _ ih =>
  intro b hb
  obtain ⟨a1,a2,a3⟩ := ih b hb
  exact ⟨a1,a2,by omega⟩
 | yes _ ih =>
  intro b hb
  rcases List.mem_append.1 hb with hb | hb
  ·obtain ⟨a1,a2,a3⟩ := ih b hb
   exact ⟨a1,a2,by omega⟩
  ·rw [List.mem_singleton.1 hb]; exact ⟨rfl,Int.natCast_nonneg _,by simp only; omega⟩
theorem BP.len {s : Nat} {B : List TBind} (h : BP s B) : B.length <= s := by
 induction h with
 | nil => simp
 | no _ ih => omega
 | yes _ ih => simp; omega
theorem BP.dif {s : Nat} {B : List TBind} (h : BP s B) : ∀ (i j : Nat) (x y : TBind),i < j -> B[i]? = some x -> B[j]? = some y -> x.sel ≠ y.sel := by
 induction h with
 | nil => intro i j x y _ h; simp at h
 | no _ ih => exact ih
 | yes hp ih =>
  rename_i s B
  intro i j x y hij hx hy
  by_cases hj : j < B.length
  ·rw [List.getElem?_append_left (by omega)] at hx
   rw [List.getElem?_append_left hj] at hy
   exact ih i j x y hij hx hy
  ·have hj' : j = B.length := by
    have := (List.getElem?_eq_some_iff.1 hy).1
    simp at this; omega
   subst hj'
   rw [List.getElem?_append_left hij] at hx
   simp at hy
   have := hp.rng x (List.mem_of_getElem? hx)
   rw [<- hy]; simp only; omega
theorem BP.dict {B : List TBind} (h : BP 6 B) : (dOf B).isSome = true := by
 have : (allB 6).all (fun B => (dOf B).isSome) = true := by kernel_rfl
 exact List.all_eq_true.1 this B h.mem
def mArgsOf : List Int := [0,1,1,2,0,0,0,0,1]
structure UOk (u : TUnit) : Prop where
 names : u.names = keepNames
 cls : 3 <= u.classes.length /\ u.classes.length <= 5 /\ ∀ (i : Nat) (x : TClass),u.classes[i]? = some x -> ClassAt u.classes i x /\ BP 6 x.binds
 meths : u.methods.length = 9 /\ ∀ (i : Nat) (m : TMethod),u.methods[i]? = some m -> TMok (u.classes.length : Int) (mArgsOf.getD i 0) m
 objs : 1 <= u.objects.length /\ u.objects.length <= 5 /\ ∀ o ∈ u.objects,OGood o u.classes u.objects.length
 main : u.main = 6
theorem hChain_short {L : List TClass} (hL : ∀ (i : Nat) (x : TClass),L[i]? = some x -> x.super < i) : ∀ (f : Nat) (i : Int),(hChainFrom L f i).length <= (i + 1).toNat
 | 0,i => by simp [hChainFrom]
 | f + 1,i => by
  unfold hChainFrom
  split
  ·rename_i h
   have ih := hChain_short hL f (L.getD i.toNat default).super
   have := hL i.toNat _ (getD_some (d := default) (by omega))
   simp only [List.length_cons]; omega
  ·simp
theorem UOk.cls_ {u : TUnit} (h : UOk u) {i : Nat} {x : TClass} (hx : u.classes[i]? = some x) : i < 5 /\ 0 <= x.fields /\ x.fields <= 10 /\ -1 <= x.super /\ x.super < i := by
 have hi := (List.getElem?_eq_some_iff.1 hx).1
 obtain ⟨h1,h2,h3⟩ := h.cls
 obtain ⟨_,h4⟩ := (h3 i x hx).1
 omega
theorem UOk.good {u : TUnit} (h : UOk u) : UGood u := by
 obtain ⟨l1,l2,l3⟩ := h.cls
 obtain ⟨m1,m2⟩ := h.meths
 obtain ⟨o1,o2,o3⟩ := h.objs
 have hsup : ∀ (i : Nat) (x : TClass),u.classes[i]? = some x -> x.super < i := fun i x hx => (h.cls_ hx).2.2.2.2
 have hargs : ∀ i : Nat,0 <= mArgsOf.getD i 0 /\ mArgsOf.getD i 0 <= 6 := by
  intro i
  by_cases hi : i < 9
  ·have : ∀ i : Nat,i < 9 -> 0 <= mArgsOf.getD i 0 /\ mArgsOf.getD i 0 <= 6 := by decide
   exact this i hi
  ·rw [List.getD_eq_getElem?_getD,List.getElem?_eq_none (by simp [mArgsOf]; omega)]; simp
 refine ⟨by rw [h.names]; exact ⟨by decide,by omega,by omega,by omega,by omega⟩,?_,?_,fun c hc => ?_,fun m hm => ?_,fun c hc b hb => ?_,o3,by rw [h.main,m1]; refine ⟨by omega,by omega,?_⟩; exact (m2 6 _ (getD_some (d := default) (by omega))).args⟩
 ·rw [h.names]
  refine ⟨?_,by decide,?_⟩
  ·have : keepNames.all (fun s => nRight s && decide (s.size <= 16)) = true := by kernel_rfl
   intro s hs
   have := List.all_eq_true.1 this s hs
   simpa using this
  ·have hnd : (keepNames.map kyL).Nodup := by decide
   intro i j x y hij hx hy e
   have := List.pairwise_iff_getElem.1 hnd i j (by simpa using (List.getElem?_eq_some_iff.1 hx).1) (by simpa using (List.getElem?_eq_some_iff.1 hy).1) hij
   simp only [List.getElem_map,(List.getElem?_eq_some_iff.1 hx).2,(List.getElem?_eq_some_iff.1 hy).2] at this
   exact this e.symm
 ·rw [h.names,m1]
  obtain ⟨x0,hx0⟩ : ∃ x,u.classes[0]? = some x := ⟨_,List.getElem?_eq_getElem (by omega)⟩
  obtain ⟨x1,hx1⟩ : ∃ x,u.classes[1]? = some x := ⟨_,List.getElem?_eq_getElem (by omega)⟩
  have c0 := (l3 0 x0 hx0).1.2
  have c1 := (l3 1 x1 hx1).1.2
  refine ⟨⟨by omega,by omega⟩,?_,?_,fun i x hx => ?_⟩
  ·rw [List.getD_eq_getElem?_getD,hx0]; simp only [Option.getD_some]; omega
  ·rw [List.getD_eq_getElem?_getD,hx1]; simp only [Option.getD_some]; omega
  ·have hi := h.cls_ hx
   obtain ⟨⟨hn,hc⟩,hb⟩ := l3 i x hx
   refine ⟨?_,fun j y hj hy => ?_,⟨by omega,by omega,?_⟩,⟨by have := hb.len; omega,fun b hb' => by have := hb.rng b hb'; show _ /\ _ < ((6 : Nat) : Int) /\ _ /\ _ < ((9 : Nat) : Int); omega,hb.dif⟩⟩
   ·rw [hn]
    have : ∀ i : Nat,i < 5 -> 1 <= (clsNames.getD i ⟨#[]⟩).size /\ (clsNames.getD i ⟨#[]⟩).size <= 16 := by decide
    exact this i hi.1
   ·rw [hn,(l3 j y hy).1.1]
    have : ∀ i : Nat,i < 5 -> ∀ j : Nat,j < i -> ((clsNames.getD j ⟨#[]⟩).toList == (clsNames.getD i ⟨#[]⟩).toList) = false := by
     have hb : (List.range 5).all (fun i => (List.range i).all fun j => !((clsNames.getD j ⟨#[]⟩).toList == (clsNames.getD i ⟨#[]⟩).toList)) = true := by kernel_rfl
     intro i hi j hj
     have := List.all_eq_true.1 (List.all_eq_true.1 hb i (List.mem_range.2 hi)) j (List.mem_range.2 hj)
     simpa using this
    exact this i hi.1 j hj
   ·by_cases hs : x.super = -1
    ·exact .inl hs
    ·refine .inr ⟨?_,by omega⟩
     have := hChain_short hsup 8 x.super
     show (hChainFrom u.classes 8 x.super).length < 8
     omega
 ·obtain ⟨i,hi⟩ := List.getElem?_of_mem hc
  exact (l3 i c hi).2.dict
 ·obtain ⟨i,hi⟩ := List.getElem?_of_mem hm
  rw [h.names,m1]
  exact (m2 i m hi).good (hargs i)
 ·obtain ⟨i,hi⟩ := List.getElem?_of_mem hc
  obtain ⟨r1,r2,r3⟩ := (l3 i c hi).2.rng b hb
  have hm := m2 b.sel.toNat _ (getD_some (d := default) (by omega))
  rw [h.names,r1,hm.args]
  have : ∀ k : Nat,k < 6 -> nArgs (keepNames.getD k ⟨#[]⟩) = mArgsOf.getD k 0 := by
   have hb : (List.range 6).all (fun k => decide (nArgs (keepNames.getD k ⟨#[]⟩) = mArgsOf.getD k 0)) = true := by kernel_rfl
   intro k hk
   simpa using List.all_eq_true.1 hb k (List.mem_range.2 hk)
  exact this b.sel.toNat (by omega)
theorem UOk.bytes {u : TUnit} (h : UOk u) : ∀ m ∈ u.methods,Bytes m.code := by
 intro m hm
 obtain ⟨i,hi⟩ := List.getElem?_of_mem hm
 obtain ⟨L,hc,hg,_⟩ := (h.meths.2 i m hi).code
 rw [hc]; exact hg.lenB
end
section
structure US (N : Nat) (W : Nat -> Prop) (t n0 b1 : Nat) (Q : Hp -> Prop) (h0 h : Hp) (cs : List Value) : Prop where
 tape : IsTape N h t
 bb : Bk h b1 cs
 q : Q h
 stab : ∀ h h' : Hp,Q h -> Fr (fun y => W y \/ y = t \/ y = b1) h h' -> Q h'
 fr : Fr (fun y => n0 <= y \/ y = t) h0 h
 w : ∀ y,W y -> n0 <= y /\ y ≠ b1
 r : n0 <= b1 /\ t < n0 /\ N <= n0
section
variable {N t n0 b1 : Nat} {W W' : Nat -> Prop} {Q Q' : Hp -> Prop} {h0 h h' : Hp} {cs cs' : List Value}
theorem US.go (us : US N W t n0 b1 Q h0 h cs) (hT : IsTape N h' t) (hF : Fr (fun y => W y \/ y = t) h h') : US N W t n0 b1 Q h0 h' cs := by
 have hr := us.r
 refine ⟨hT,us.bb.fr hF fun e => ?_,us.stab _ _ us.q (hF.mono fun y _ e => ?_),us.stab,us.fr.trans' (hF.mono fun y _ e => ?_),us.w,us.r⟩
 ·rcases e with e | e
  ·exact (us.w _ e).2 rfl
  ·omega
 ·rcases e with e | e
  ·exact .inl e
  ·exact .inr (.inl e)
 ·rcases e with e | e
  ·exact .inl (us.w _ e).1
  ·exact .inr e
theorem US.nw (us : US N W t n0 b1 Q h0 h cs) (hF : Nw h h') : US N W t n0 b1 Q h0 h' cs := us.go (us.tape.nw hF) hF.fr
theorem US.st (us : US N W t n0 b1 Q h0 h cs) (hB : Bk h' b1 cs') (hF : Fr (· = b1) h h') : US N W t n0 b1 Q h0 h' cs' := by
 have hr := us.r
 exact ⟨us.tape.fr hF fun y hy => by omega,hB,us.stab _ _ us.q (hF.mono fun y _ e => .inr (.inr e)),us.stab,us.fr.trans' (hF.mono fun y _ e => .inl (by omega)),us.w,us.r⟩
theorem US.next {w : World} (us : US N W t n0 b1 Q h0 w.heap cs) (k : Int) {G : Int -> World -> Prop} (H : ∀ x w',0 <= x -> (1 <= k -> x < k) -> Fr (· = t) w.heap w'.heap -> US N W t n0 b1 Q h0 w'.heap cs -> G x w') :
  Calls P F.Zf #[.pointer (some ⟨t,0,none⟩),.int .i64 k] w fun en w' => ∃ x : Int,en = .returned (.int .i64 x) /\ G x w' := by
 refine (keep_Next_ok us.tape k).mono ?_; rintro _ w1 ⟨x,rfl,x0,x1,hT,hF⟩
 exact ⟨x,rfl,H x w1 x0 x1 hF (us.go hT (hF.mono fun y _ e => .inr e))⟩
theorem US.turn (us : US N W t n0 b1 Q h0 h cs) (hq : Q' h) (hst : ∀ h h' : Hp,Q' h -> Fr (fun y => W' y \/ y = t \/ y = b1) h h' -> Q' h') (hw : ∀ y,W' y -> n0 <= y /\ y ≠ b1) : US N W' t n0 b1 Q' h0 h cs :=
 ⟨us.tape,us.bb,hq,hst,us.fr,hw,us.r⟩
end
structure Stb {α β : Type} (R : Hp -> (Nat -> Prop) -> α -> β -> Prop) : Prop where
 fr : ∀ {h h' : Hp} {S K K' : Nat -> Prop} {a : α} {b : β},R h K a b -> Fr S h h' -> (∀ y,y < h.size -> K y -> ¬ S y) -> (∀ y,y < h.size -> K y -> K' y) -> R h' K' a b
theorem stb_class : Stb IsClass := ⟨fun h hf hd hk => h.fr hf hd hk⟩
theorem stb_method : Stb IsMethod := ⟨fun h hf hd hk => h.fr hf hd hk⟩
theorem stb_obj : Stb IsObj := ⟨fun h hf hd hk => h.fr hf hd hk⟩
theorem All2.set {α β : Type} {R : α -> β -> Prop} {l : List α} {m : List β} (h : All2 R l m) {k : Nat} {a : α} {b : β} (hr : R a b) : All2 R (l.set k a) (m.set k b) := by
 refine ⟨by simp [h.len],fun i x y hx hy => ?_⟩
 have hi : i < l.length := by have := (List.getElem?_eq_some_iff.1 hx).1; simpa using this
 by_cases e : k = i
 ·subst e
  rw [List.getElem?_set_self hi] at hx
  rw [List.getElem?_set_self (by rw [<- h.len]; exact hi)] at hy
  simp only [Z3] at hx hy
  subst hx hy; exact hr
 ·rw [List.getElem?_set_ne e] at hx hy
  exact h.at_ i x y hx hy
def PX {α β : Type} (E : Enc α) (R : Hp -> (Nat -> Prop) -> α -> β -> Prop) (V : Nat -> Prop) (h : Hp) (p : Option Addr) (n c : Nat) (l : List α) (xs : List β) (pl : List α) (px : List β) : Prop :=
 ∃ T K : Nat -> Prop,Sl h T E p n c l /\ All2 (R h K) l xs /\ All2 (R h K) pl px /\ (∀ y,T y -> V y) /\ ∀ y,K y -> V y /\ ¬ T y
section
variable {α β : Type} {E : Enc α} {R : Hp -> (Nat -> Prop) -> α -> β -> Prop} {V V' S : Nat -> Prop} {h h' : Hp} {p : Option Addr} {n c : Nat} {l pl : List α} {xs px : List β}
theorem PX.fr (hR : Stb R) (x : PX E R V h p n c l xs pl px) (hF : Fr S h h') (hS : ∀ y,y < h.size -> V y -> ¬ S y) (hV : ∀ y,y < h.size -> V y -> V' y) : PX E R V' h' p n c l xs pl px := by
 obtain ⟨T,K,hs,ha,hp,hT,hK⟩ := x
 refine ⟨fun y => T y /\ y < h.size,fun y => K y /\ y < h.size,hs.fr hF (fun y hy e => hS y hy (hT y e)) (fun y hy e => ⟨e,hy⟩),ha.mono fun a b r => hR.fr r hF (fun y hy e => hS y hy (hK y e).1) (fun y hy e => ⟨e,hy⟩),hp.mono fun a b r => hR.fr r hF (fun y hy e => hS y hy (hK y e).1) (fun y hy e => ⟨e,hy⟩),fun y hy => hV y hy.2 (hT y hy.1),fun y hy => ⟨hV y hy.2 (hK y hy.1).1,fun e => (hK y hy.1).2 e.1⟩⟩
theorem PX.len (x : PX E R V h p n c l xs pl px) : l.length = n /\ xs.length = n /\ pl.length = px.length := by
 obtain ⟨T,K,hs,ha,hp,_⟩ := x
 exact ⟨hs.len,by rw [<- ha.len]; exact hs.len,hp.len⟩
theorem PX.pend (hR : Stb R) (x : PX E R V h p n c l xs pl px) {K2 : Nat -> Prop} {a : α} {b : β} (hr : R h K2 a b) (hK2 : ∀ y,K2 y -> ¬ V y) : PX E R (fun y => V y \/ K2 y) h p n c l xs (pl ++ [a]) (px ++ [b]) := by
 obtain ⟨T,K,hs,ha,hp,hT,hK⟩ := x
 have go : ∀ {a : α} {b : β},R h K a b -> R h (fun y => K y \/ K2 y) a b := fun r => hR.fr r (Fr.refl (fun _ => False) h) (fun _ _ _ e => e) fun y _ e => .inl e
 refine ⟨T,fun y => K y \/ K2 y,hs,ha.mono fun a b r => go r,(hp.mono fun a b r => go r).append (All2.nil.cons (hR.fr hr (Fr.refl (fun _ => False) h) (fun _ _ _ e => e) fun y _ e => .inr e)),fun y hy => .inl (hT y hy),fun y hy => ?_⟩
 rcases hy with hy | hy
 ·exact ⟨.inl (hK y hy).1,(hK y hy).2⟩
 ·exact ⟨.inr hy,fun e => hK2 y hy (hT y e)⟩
theorem PX.app {T el ty : TypeId} (tf : SlTy P T el E) (hR : Stb R) {w : World} (x : PX E R V w.heap p n c l xs pl px) (hV : ∀ y,V y -> y < w.heap.size) {b n2 : Nat} (hB : Bk w.heap b (recs E pl)) (hb : ¬ V b) (h2 : pl.length = n2) (hn : n + n2 <= 100000) {Q : Option Addr -> Nat -> Nat -> World -> Prop}
  (H : ∀ p' c' w',PX E R (fun y => V y \/ w.heap.size <= y /\ y < w'.heap.size) w'.heap p' (n + n2) c' (l ++ pl) (xs ++ px) [] [] -> Fr V w.heap w'.heap -> Q p' (n + n2) c' w') :
  ∃ (px : Option Addr) (nx cx : Nat),∃ w1,(Builtin.append_ #[T,T] ty #[.slice p n c,.slice (some ⟨b,0,none⟩) n2 n2]).run P w = .ok (.slice px nx cx) w1 /\ Aft w w1 /\ Q px nx cx w1 := by
 obtain ⟨T0,K,hs,ha,hp,hT,hK⟩ := x
 have h2' := Sl.of_blk (ok := fun y => y = b) (h := w.heap) (E := E) (b := b) (l := pl) hB rfl h2 (by omega)
 refine append_r tf hs h2' (by omega) ?_; intro p' c' w2 hs2 hF2
 refine H p' c' w2 ⟨fun y => Old T0 w.heap y /\ y < w2.heap.size,K,hs2.mono fun y hy e => ⟨e,hy⟩,(ha.append hp).mono fun a b r => hR.fr r hF2 (fun y _ e => (hK y e).2) fun y _ e => e,All2.nil,fun y hy => ?_,fun y hy => ⟨.inl (hK y hy).1,fun e => ?_⟩⟩ (hF2.mono fun y _ e => hT y e)
 ·rcases hy.1 with e | e
  ·exact .inl (hT y e)
  ·exact .inr ⟨e,hy.2⟩
 ·rcases e.1 with e | e
  ·exact (hK y hy).2 e
  ·have := hV y (hK y hy).1; omega
theorem PX.nil : PX E R V h none 0 0 [] [] [] [] := ⟨fun _ => False,fun _ => False,Sl.nil,All2.nil,All2.nil,fun _ h => h.elim,fun _ h => h.elim⟩
theorem PX.call {M t : Nat} (hR : Stb R) (x : PX E R (fun y => M <= y /\ y < h.size) h p n c l xs pl px) (hF : Fr (· = t) h h') (ht : t < M) (hM : M <= h.size) {a : α} {b : β} (hr : R h' (fun y => h.size <= y) a b) : PX E R (fun y => M <= y /\ y < h'.size) h' p n c l xs (pl ++ [a]) (px ++ [b]) := by
 have x1 := x.fr (V' := fun y => M <= y /\ y < h.size) hR hF (fun y _ hy e => by omega) (fun y _ hy => hy)
 have r1 := hR.fr hr (Fr.refl (fun _ => False) h') (fun _ _ _ e => e) (K' := fun y => h.size <= y /\ y < h'.size) (fun y hy e => ⟨e,hy⟩)
 have hle := hF.le
 exact (x1.pend hR r1 (fun y hy => by omega)).fr hR (Fr.refl (fun _ => False) h') (fun _ _ _ e => e) fun y _ hy => by omega
theorem PX.appz {T el ty : TypeId} (tf : SlTy P T el E) (hR : Stb R) {M : Nat} {w : World} (x : PX E R (fun y => M <= y /\ y < h.size) h p n c l xs pl px) (hN : Nw h w.heap) {b n2 : Nat} (hb : h.size <= b) (hB : Bk w.heap b (recs E pl)) (h2 : pl.length = n2) (hn : n + n2 <= 100000) (hM : M <= h.size) {Q : Option Addr -> Nat -> Nat -> World -> Prop}
  (H : ∀ p' c' w',PX E R (fun y => M <= y /\ y < w'.heap.size) w'.heap p' (n + n2) c' (l ++ pl) (xs ++ px) [] [] -> Fr (fun y => M <= y) w.heap w'.heap -> Q p' (n + n2) c' w') :
  ∃ (px : Option Addr) (nx cx : Nat),∃ w1,(Builtin.append_ #[T,T] ty #[.slice p n c,.slice (some ⟨b,0,none⟩) n2 n2]).run P w = .ok (.slice px nx cx) w1 /\ Aft w w1 /\ Q px nx cx w1 := by
 have hle := hN.le
 refine PX.app tf hR (x.fr (V' := fun y => M <= y /\ y < h.size) hR hN (fun _ _ _ e => e) (fun _ _ e => e)) (fun y hy => by omega) hB (by omega) h2 hn ?_
 intro p' c' w' px' F'
 have hle' := F'.le
 exact H p' c' w' (px'.fr hR (Fr.refl (fun _ => False) _) (fun _ _ _ e => e) fun y _ hy => by omega) (F'.mono fun y _ e => e.1)
theorem PX.st {M b1 : Nat} (hR : Stb R) (x : PX E R (fun y => M <= y /\ y < h.size) h p n c l xs pl px) (hF : Fr (· = b1) h h') (hb : b1 < M) : PX E R (fun y => M <= y /\ y < h'.size) h' p n c l xs pl px :=
 x.fr hR hF (fun y _ hy e => by omega) fun y _ hy => by have := hF.le; omega
theorem cell_fr {w w' : World} {g o : Nat} {v : Value} {S : Nat -> Prop} (h : w.cell? ⟨g,o,none⟩ = some v) (hf : Fr S w.heap w'.heap) (hS : ¬ S g) : w'.cell? ⟨g,o,none⟩ = some v := by
 have hg := cell_lt h
 rw [<- h]
 unfold World.cell?
 rw [hf.eq g hg hS]
theorem Sl.hold {w : World} {ok : Nat -> Prop} (hs : Sl w.heap ok E p n c l) {i : Nat} {x : α} (hx : l[i]? = some x) : ∃ g o,p = some ⟨g,o,none⟩ /\ ok g /\ holds w g (o + i * E.sz) (E.f x) := by
 have hi : i < n := by rw [<- hs.len]; exact (List.getElem?_eq_some_iff.1 hx).1
 obtain ⟨b,pre,post,e,hb,_,hB⟩ := hs.addr hi
 refine ⟨b,pre.length,e,hb,?_⟩
 have h1 := hs.idx (w := w) (K := fun g o => holds w g (o + i * E.sz) (E.f x)) hx (fun g o _ hh => hh)
 rw [e,onPtr_some] at h1
 exact h1
theorem Sl.stc {w : World} {ok : Nat -> Prop} (hs : Sl w.heap ok E p n c l) {i : Nat} {x x' : α} (hx : l[i]? = some x) {j : Nat} {vs : List Value} (hj : j + vs.length <= E.sz) (he : sets (E.f x) j vs = E.f x') {g o : Nat} (hp : p = some ⟨g,o,none⟩) {k : World -> Prop}
  (H : ∀ w2,Sl w2.heap ok E p n c (l.set i x') -> Fr (· = g) w.heap w2.heap -> ok g -> k w2) : stores w g (o + i * E.sz + j) vs k := by
 have hi : i < n := by rw [<- hs.len]; exact (List.getElem?_eq_some_iff.1 hx).1
 obtain ⟨b,pre,post,e,hb,hl,hB⟩ := hs.addr hi
 rw [hp] at e
 simp only [Z3,ZG,and_true] at e
 obtain ⟨rfl,rfl⟩ := e
 have hle : i * E.sz + E.sz <= n * E.sz := by rw [<- Nat.succ_mul]; exact Nat.mul_le_mul_right _ hi
 have e1 := recs_split (E := E) hx
 have hlt : (recs E (l.take i)).length = i * E.sz := by rw [recs_length,List.length_take,hs.len,Nat.min_eq_left (by omega)]
 have e2 : recs E (l.set i x') = recs E (l.take i) ++ E.f x' ++ recs E (l.drop (i + 1)) := by
  have := recs_split (E := E) (l := l.set i x') (i := i) (x := x') (by rw [List.getElem?_set_self (by rw [hs.len]; exact hi)])
  rw [this,List.take_set_of_le (Nat.le_refl _),List.drop_set_of_lt (by omega)]
 rw [Nat.add_assoc]
 refine stores_i hB (by simp [recs_length,hs.len]; omega) fun w2 h2 hf hz => H w2 ⟨by simp [hs.len],hs.cap,hs.nul,fun _ => ⟨g,pre,post,hp,hb,hl,?_⟩,hs.small⟩ hf hb
 rw [sets_mid _ _ _ _ _ (by rw [recs_length,hs.len]; omega),e1,<- hlt,sets_mid _ _ _ _ _ (by rw [E.len]; exact hj),he,<- e2] at h2
 exact h2
theorem PX.hold {w : World} (x : PX E R V w.heap p n c l xs pl px) {i : Nat} {y : β} (hy : xs[i]? = some y) : ∃ a,l[i]? = some a /\ (∃ K,R w.heap K a y) /\ ∃ g o,p = some ⟨g,o,none⟩ /\ V g /\ holds w g (o + i * E.sz) (E.f a) := by
 obtain ⟨T0,K,hs,ha,hp,hT,hK⟩ := x
 obtain ⟨a,h1,h2⟩ := ha.get hy
 obtain ⟨g,o,h3,h4,h5⟩ := hs.hold h1
 exact ⟨a,h1,⟨K,h2⟩,g,o,h3,hT g h4,h5⟩
end
end
end Go.Proofs.YtbedadcbbnmpkaaGreatDoor
