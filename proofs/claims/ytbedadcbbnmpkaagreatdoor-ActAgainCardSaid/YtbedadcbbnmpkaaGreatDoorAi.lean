/- Part 9 of what the proof rests on: SpAct6, SpCopy, SpAct7. No condition. -/
import Derived.Test.YtbedadcbbnmpkaaGreatDoorAh
set_option linter.unusedSimpArgs false
set_option linter.unusedVariables false
namespace Go.Proofs.YtbedadcbbnmpkaaGreatDoor
open Go Vc
section
section
variable {α : Type} (O : StoreOps α)
def mCopyN (σ : TM α) (a b i : Int) : Nat -> TM α
 | 0 => σ
 | k + 1 => (mPut O (mGet O (mCopyN σ a b i k) a (i + k)).2 b (i + k) (mGet O (mCopyN σ a b i k) a (i + k)).1.1).2
def dCopyTo (σ : TM α) (δ : TD) (n : Int) : Int := if IntKind.wrap .i64 (σ.copied.getD δ.f.toNat 0 + 4) < n then IntKind.wrap .i64 (σ.copied.getD δ.f.toNat 0 + 4) else n
def dCopyEnd (σ : TM α) (δ : TD) (a b n : Int) : TM α :=
 let s := mCopyN O σ a b (σ.copied.getD δ.f.toNat 0) (dCopyTo σ δ n - σ.copied.getD δ.f.toNat 0).toNat
 let t : TM α := { s with copied := s.copied.set δ.f.toNat (dCopyTo σ δ n) }
 if dCopyTo σ δ n < n then dGoto t δ δ.x.pc else dAnswer { t with copied := t.copied.set δ.f.toNat 0 } δ 3 (wInt n).1
def dCopy (σ : TM α) (δ : TD) : Int × TM α :=
 let a := dOpen O { σ with why := 3 } (dUnder δ 2)
 let b := dOpen O a.2 (dUnder δ 1)
 let n := wNum (dUnder δ 0)
 if a.1.2 = false then (2,b.2) else if b.1.2 = false then (2,b.2) else if n.2 = false then (2,b.2)
 else if n.1 < 0 then (3,b.2)
 else if (mFlds O b.2 a.1.1).1 < n.1 then (3,(mFlds O b.2 a.1.1).2)
 else if (mFlds O (mFlds O b.2 a.1.1).2 b.1.1).1 < n.1 then (3,(mFlds O (mFlds O b.2 a.1.1).2 b.1.1).2)
 else (0,dCopyEnd O (mFlds O (mFlds O b.2 a.1.1).2 b.1.1).2 δ a.1.1 b.1.1 n.1)
def dSwap (σ : TM α) (δ : TD) : Int × TM α :=
 let a := mObject O σ (dUnder δ 1)
 let b := mObject O a.2 (dUnder δ 0)
 if a.1.2 = false then (2,b.2) else if b.1.2 = false then (2,b.2)
 else
  let c1 := mCls O b.2 a.1.1
  let c2 := mCls O c1.2 b.1.1
  if ¬ c1.1 = c2.1 then (2,c2.2)
  else
   let f1 := mFlds O c2.2 a.1.1
   let f2 := mFlds O f1.2 b.1.1
   if ¬ f1.1 = f2.1 then (2,f2.2) else (0,dAnswer (mSwap O f2.2 a.1.1 b.1.1).2 δ 2 2)
def negAt : List Int -> Nat
 | [] => 0
 | x :: r => if x < 0 then 0 else negAt r + 1
def dFork (σ : TM α) (δ : TD) : Int × TM α :=
 let b := dBlock O σ (dUnder δ 1) 0
 let n := wNum (dUnder δ 0)
 if b.1.2 = false then (2,b.2) else if n.2 = false then (2,b.2)
 else if n.1 < 0 then (3,b.2) else if 4 <= n.1 then (3,b.2)
 else if negAt b.2.top = 6 then (8,b.2)
 else if pFree b.2.pool = 0 then (5,b.2)
 else
  let t := dBegin b.2 b.1.1 [] (-1)
  (0,dAnswer { t.2 with top := t.2.top.set (negAt b.2.top) t.1,queue := qReady t.2.queue (negAt b.2.top : Int) n.1 } δ 2 (wInt (negAt b.2.top : Int)).1)
end
section
variable {α : Type} {O : StoreOps α} {I : Hp -> (Nat -> Prop) -> Value -> α -> Prop} {OK : Nat -> Prop} {n0 : Nat} {m : Nat} {K : MK} {D : DK} {σ : TM α} {δ : TD} {w : World}
theorem act_swap_ok (hc : CT O I OK n0 w.heap m K D σ δ) (h2 : 2 <= δ.x.stack.length) : Calls P F.Z2x #[.pointer (some ⟨D.d,0,none⟩)] w (DTo O I OK n0 m K D δ (.int .i64 (dSwap O σ δ).1) (dSwap O σ δ).2 w) := by
 refine oZ2x ?_
 unfold vZ2x
 rw [wv_eq]
 have hF0 : Fr OK w.heap w.drew.heap := Fr.refl _ _
 replace hc : CT O I OK n0 w.drew.heap m K D σ δ := hc
 generalize w.drew = wa at *
 refine ⟨_,hc.d0,?_⟩
 refine (act_under_ok hc (n := 1) (by omega)).mono ?_; rintro _ _ ⟨rfl,n1,rfl⟩
 replace hc : CT O I OK n0 (dr wa n1).heap m K D σ δ := hc
 refine ⟨_,rfl,⟨hc.d0,trivial⟩,?_⟩
 refine (act_object_ok hc.inv _).mono ?_; rintro _ w1 ⟨rfl,hM1,hF1⟩
 have hc1 := hc.to hM1 hF1
 have hF01 := hF0.trans' (h1 := wa.heap) hF1
 refine ⟨_,_,rfl,trivial,?_⟩
 rw [wv_eq]
 have hle1 := mObject_le (O := O) σ (dUnder δ 1)
 unfold dSwap
 dsimp only
 generalize mObject O σ (dUnder δ 1) = a at *
 replace hc1 : CT O I OK n0 w1.drew.heap m K D a.2 δ := hc1
 replace hF01 : Fr OK w.heap w1.drew.heap := hF01
 generalize w1.drew = wb at *
 refine ⟨_,hc1.d0,?_⟩
 refine (act_under_ok hc1 (n := 0) (by omega)).mono ?_; rintro _ _ ⟨rfl,n2,rfl⟩
 replace hc1 : CT O I OK n0 (dr wb n2).heap m K D a.2 δ := hc1
 refine ⟨_,rfl,⟨hc1.d0,trivial⟩,?_⟩
 refine (act_object_ok hc1.inv _).mono ?_; rintro _ w2 ⟨rfl,hM2,hF2⟩
 have hc2 := hc1.to hM2 hF2
 have hF02 := hF01.trans' (h1 := wb.heap) hF2
 refine ⟨_,_,rfl,trivial,?_⟩
 have hle2 := mObject_le (O := O) a.2 (dUnder δ 0)
 generalize mObject O a.2 (dUnder δ 0) = b at *
 rw [join_eq,wv_eq]
 replace hc2 : CT O I OK n0 w2.drew.heap m K D b.2 δ := hc2
 replace hF02 : Fr OK w.heap w2.drew.heap := hF02
 generalize w2.drew = wc at *
 refine br_of (fun h3 => ?_) (fun h3 => ?_) <;> simp only [ZL,ZM] at h3
 ·rw [if_pos h3]; exact ⟨rfl,hc2,hF02⟩
 rw [if_neg (show ¬ a.1.2 = false by rw [h3]; simp)]
 refine br_of (fun h4 => ?_) (fun h4 => ?_) <;> simp only [ZL,ZM] at h4
 ·rw [if_pos h4]; exact ⟨rfl,hc2,hF02⟩
 rw [if_neg (show ¬ b.1.2 = false by rw [h4]; simp)]
 refine ⟨_,hc2.d0,?_⟩
 rw [onPtr_some]
 refine ⟨.iface K.st K.s,hc2.inv.c5,_,hc2.d0,?_⟩
 rw [onPtr_some]
 refine ⟨.iface K.st K.s,hc2.inv.c5,?_⟩
 rw [onIface_some]
 obtain ⟨o_w3,ho_w3,hS_w3,back_w3⟩ := hc2.inv.store
 obtain ⟨fn_w3,rc_w3,hm1_w3,hm2_w3,hm3_w3⟩ := hc2.inv.sp.cls a.1.1 hS_w3 hle1
 refine ⟨fn_w3,rc_w3,hm1_w3,?_⟩
 rw [hm2_w3,chk_true]
 refine hm3_w3.mono ?_; rintro _ w3 ⟨rfl,hS'_w3,hF_w3⟩
 obtain ⟨hM_w3,hFo_w3⟩ := back_w3 _ _ hS'_w3 hF_w3
 have hc_w3 := hc2.to hM_w3 hFo_w3
 refine ⟨_,rfl,⟨hc_w3.inv.c5,hc_w3.d0,hc_w3.d0,trivial⟩,?_⟩
 rw [onIface_some]
 obtain ⟨o_w4,ho_w4,hS_w4,back_w4⟩ := hc_w3.inv.store
 obtain ⟨fn_w4,rc_w4,hm1_w4,hm2_w4,hm3_w4⟩ := hc_w3.inv.sp.cls b.1.1 hS_w4 hle2
 refine ⟨fn_w4,rc_w4,hm1_w4,?_⟩
 rw [hm2_w4,chk_true]
 refine hm3_w4.mono ?_; rintro _ w4 ⟨rfl,hS'_w4,hF_w4⟩
 obtain ⟨hM_w4,hFo_w4⟩ := back_w4 _ _ hS'_w4 hF_w4
 have hc_w4 := hc_w3.to hM_w4 hFo_w4
 refine ⟨_,rfl,⟨hc_w4.d0,hc_w4.d0,trivial⟩,?_⟩
 have hF04 := (hF02.trans' hFo_w3).trans' hFo_w4
 refine br_of (fun h5 => ?_) (fun h5 => ?_) <;> simp only [ZL,ZM,ZJ,ZK] at h5
 ·rw [if_pos (show ¬ (mCls O b.2 a.1.1).1 = (mCls O (mCls O b.2 a.1.1).2 b.1.1).1 from h5)]; exact ⟨rfl,hc_w4,hF04⟩
 rw [if_neg (show ¬ ¬ (mCls O b.2 a.1.1).1 = (mCls O (mCls O b.2 a.1.1).2 b.1.1).1 from fun h => h h5)]
 refine ⟨_,hc_w4.d0,?_⟩
 rw [onPtr_some]
 refine ⟨.iface K.st K.s,hc_w4.inv.c5,_,hc_w4.d0,?_⟩
 rw [onPtr_some]
 refine ⟨.iface K.st K.s,hc_w4.inv.c5,?_⟩
 rw [onIface_some]
 obtain ⟨o_w5,ho_w5,hS_w5,back_w5⟩ := hc_w4.inv.store
 obtain ⟨fn_w5,rc_w5,hm1_w5,hm2_w5,hm3_w5⟩ := hc_w4.inv.sp.flds a.1.1 hS_w5 hle1
 refine ⟨fn_w5,rc_w5,hm1_w5,?_⟩
 rw [hm2_w5,chk_true]
 refine hm3_w5.mono ?_; rintro _ w5 ⟨rfl,hS'_w5,hF_w5⟩
 obtain ⟨hM_w5,hFo_w5⟩ := back_w5 _ _ hS'_w5 hF_w5
 have hc_w5 := hc_w4.to hM_w5 hFo_w5
 refine ⟨_,rfl,⟨hc_w5.inv.c5,hc_w5.d0,hc_w5.d0,hc_w5.d0,hc_w5.d0,trivial⟩,?_⟩
 rw [onIface_some]
 obtain ⟨o_w6,ho_w6,hS_w6,back_w6⟩ := hc_w5.inv.store
 obtain ⟨fn_w6,rc_w6,hm1_w6,hm2_w6,hm3_w6⟩ := hc_w5.inv.sp.flds b.1.1 hS_w6 hle2
 refine ⟨fn_w6,rc_w6,hm1_w6,?_⟩
 rw [hm2_w6,chk_true]
 refine hm3_w6.mono ?_; rintro _ w6 ⟨rfl,hS'_w6,hF_w6⟩
 obtain ⟨hM_w6,hFo_w6⟩ := back_w6 _ _ hS'_w6 hF_w6
 have hc_w6 := hc_w5.to hM_w6 hFo_w6
 refine ⟨_,rfl,⟨hc_w6.d0,hc_w6.d0,hc_w6.d0,hc_w6.d0,trivial⟩,?_⟩
 have hF06 := (hF04.trans' hFo_w5).trans' hFo_w6
 refine br_of (fun h6 => ?_) (fun h6 => ?_) <;> simp only [ZL,ZM,ZJ,ZK] at h6
 ·rw [if_pos (show ¬ (mFlds O (mCls O (mCls O b.2 a.1.1).2 b.1.1).2 a.1.1).1 = (mFlds O (mFlds O (mCls O (mCls O b.2 a.1.1).2 b.1.1).2 a.1.1).2 b.1.1).1 from h6)]; exact ⟨rfl,hc_w6,hF06⟩
 rw [if_neg (show ¬ ¬ (mFlds O (mCls O (mCls O b.2 a.1.1).2 b.1.1).2 a.1.1).1 = (mFlds O (mFlds O (mCls O (mCls O b.2 a.1.1).2 b.1.1).2 a.1.1).2 b.1.1).1 from fun h => h h6)]
 refine ⟨_,hc_w6.d0,?_⟩
 rw [onPtr_some]
 refine ⟨.iface K.st K.s,hc_w6.inv.c5,?_⟩
 rw [onIface_some]
 obtain ⟨o,ho,hS,back⟩ := hc_w6.inv.store
 obtain ⟨fn,rc,hm1,hm2,hm3⟩ := hc_w6.inv.sp.swap a.1.1 b.1.1 hS hle1 hle2
 refine ⟨fn,rc,hm1,?_⟩
 rw [hm2,chk_true]
 refine hm3.mono ?_; rintro _ w7 ⟨rfl,hS7,hF7⟩
 obtain ⟨hM7,hFo7⟩ := back _ _ hS7 hF7
 have hc7 := hc_w6.to hM7 hFo7
 refine ⟨_,rfl,?_⟩
 refine (act_answer_ok hc7 2 (by omega) 2).mono ?_; rintro _ w8 ⟨rfl,hc8,hF8⟩
 exact ⟨_,rfl,rfl,hc8,(hF06.trans' hFo7).trans' hF8⟩
theorem dOpen_same (O : StoreOps α) (σ : TM α) (x : Int) : (dOpen O σ x).2 = { σ with s := (dOpen O σ x).2.s } := by
 have h := mObject_u O σ x
 unfold dOpen mCls
 split
 ·exact h
 ·split
  ·simp only; rw [h]
  ·simp only; rw [h]
theorem act_copy_ok (hc : CT O I OK n0 w.heap m K D σ δ) (h3 : 3 <= δ.x.stack.length) (hf : 0 <= δ.f /\ δ.f < 24) (hcp : -1000000 <= σ.copied.getD δ.f.toNat 0 /\ σ.copied.getD δ.f.toNat 0 <= 1000000) : Calls P F.Z2w #[.pointer (some ⟨D.d,0,none⟩)] w (DTo O I OK n0 m K D δ (.int .i64 (dCopy O σ δ).1) (dCopy O σ δ).2 w) := by
 refine oZ2w ?_
 refine ⟨_,hc.d0,?_⟩
 rw [onPtr_some]
 refine hc.inv.swhy 3 ?_; intro w1 hM1 hF1 _ _
 have hc1 := hc.to hM1 hF1
 refine (act_under_ok hc1 (n := 2) (by omega)).mono ?_; rintro _ _ ⟨rfl,n1,rfl⟩
 refine ⟨_,rfl,?_⟩
 refine (act_open_ok (w := dr w1 n1) hc1 _).mono ?_; rintro _ w2 ⟨rfl,hc2,hF2⟩
 have hF02 := hF1.trans' (h1 := w1.heap) hF2
 refine ⟨_,_,rfl,?_⟩
 unfold dCopy
 dsimp only
 have hle1 := dOpen_le (O := O) { σ with why := 3 } (dUnder δ 2)
 have hs1 := dOpen_same O { σ with why := 3 } (dUnder δ 2)
 generalize dOpen O { σ with why := 3 } (dUnder δ 2) = a at *
 refine (act_under_ok hc2 (n := 1) (by omega)).mono ?_; rintro _ _ ⟨rfl,n2,rfl⟩
 refine ⟨_,rfl,?_⟩
 refine (act_open_ok (w := dr w2 n2) hc2 _).mono ?_; rintro _ w3 ⟨rfl,hc3,hF3⟩
 have hF03 := hF02.trans' (h1 := w2.heap) hF3
 refine ⟨_,_,rfl,?_⟩
 have hle2 := dOpen_le (O := O) a.2 (dUnder δ 1)
 have hs2 := dOpen_same O a.2 (dUnder δ 1)
 generalize dOpen O a.2 (dUnder δ 1) = b at *
 refine (act_under_ok hc3 (n := 0) (by omega)).mono ?_; rintro _ _ ⟨rfl,n3,rfl⟩
 refine ⟨_,rfl,?_⟩
 refine (word_Num_ok _ (dr w3 n3)).mono ?_; rintro _ _ ⟨rfl,n4,rfl⟩
 refine ⟨_,_,rfl,?_⟩
 have hc4 : CT O I OK n0 (dr (dr w3 n3) n4).heap m K D b.2 δ := hc3
 have hF04 : Fr OK w.heap (dr (dr w3 n3) n4).heap := hF03
 generalize dr (dr w3 n3) n4 = w4 at *
 have hnr := wNum_range (dUnder δ 0)
 generalize wNum (dUnder δ 0) = x at *
 refine br_of (fun h5 => ?_) (fun h5 => ?_) <;> simp only [ZL,ZM] at h5
 ·rw [if_pos h5]; exact ⟨rfl,hc4,hF04⟩
 rw [if_neg (show ¬ a.1.2 = false by rw [h5]; simp)]
 refine br_of (fun h6 => ?_) (fun h6 => ?_) <;> simp only [ZL,ZM] at h6
 ·rw [if_pos h6]; exact ⟨rfl,hc4,hF04⟩
 rw [if_neg (show ¬ b.1.2 = false by rw [h6]; simp)]
 refine br_of (fun h7 => ?_) (fun h7 => ?_) <;> simp only [ZL,ZM] at h7
 ·rw [if_pos h7]; exact ⟨rfl,hc4,hF04⟩
 rw [if_neg (show ¬ x.2 = false by rw [h7]; simp)]
 refine br_of (fun h8 => ?_) (fun h8 => ?_) <;> simp only [ZJ,ZK,ZL,ZM,ZN,ZO,ZP,ZQ,ZR] at h8
 ·rw [if_pos h8]; exact ⟨rfl,hc4,hF04⟩
 rw [if_neg (show ¬ x.1 < 0 by omega)]
 refine ⟨_,hc4.d0,?_⟩
 rw [onPtr_some]
 refine ⟨.iface K.st K.s,hc4.inv.c5,?_⟩
 rw [onIface_some]
 obtain ⟨o_w5,ho_w5,hS_w5,back_w5⟩ := hc4.inv.store
 obtain ⟨fn_w5,rc_w5,hm1_w5,hm2_w5,hm3_w5⟩ := hc4.inv.sp.flds a.1.1 hS_w5 hle1
 refine ⟨fn_w5,rc_w5,hm1_w5,?_⟩
 rw [hm2_w5,chk_true]
 refine hm3_w5.mono ?_; rintro _ w5 ⟨rfl,hS'_w5,hF_w5⟩
 obtain ⟨hM_w5,hFo_w5⟩ := back_w5 _ _ hS'_w5 hF_w5
 have hc_w5 := hc4.to hM_w5 hFo_w5
 refine ⟨_,rfl,?_⟩
 have hF05 := hF04.trans' hFo_w5
 refine br_of (fun h9 => ?_) (fun h9 => ?_) <;> simp only [ZJ,ZK,ZL,ZM,ZN,ZO,ZP,ZQ,ZR] at h9
 ·rw [if_pos (show (mFlds O b.2 a.1.1).1 < x.1 from h9)]; exact ⟨rfl,hc_w5,hF05⟩
 rw [if_neg (show ¬ (mFlds O b.2 a.1.1).1 < x.1 from by show ¬ (O.flds b.2.s a.1.1).1 < x.1; omega)]
 refine ⟨_,hc_w5.d0,?_⟩
 rw [onPtr_some]
 refine ⟨.iface K.st K.s,hc_w5.inv.c5,?_⟩
 rw [onIface_some]
 obtain ⟨o_w6,ho_w6,hS_w6,back_w6⟩ := hc_w5.inv.store
 obtain ⟨fn_w6,rc_w6,hm1_w6,hm2_w6,hm3_w6⟩ := hc_w5.inv.sp.flds b.1.1 hS_w6 hle2
 refine ⟨fn_w6,rc_w6,hm1_w6,?_⟩
 rw [hm2_w6,chk_true]
 refine hm3_w6.mono ?_; rintro _ w6 ⟨rfl,hS'_w6,hF_w6⟩
 obtain ⟨hM_w6,hFo_w6⟩ := back_w6 _ _ hS'_w6 hF_w6
 have hc_w6 := hc_w5.to hM_w6 hFo_w6
 refine ⟨_,rfl,?_⟩
 have hF06 := hF05.trans' hFo_w6
 refine br_of (fun hA => ?_) (fun hA => ?_) <;> simp only [ZJ,ZK,ZL,ZM,ZN,ZO,ZP,ZQ,ZR] at hA
 ·rw [if_pos (show (mFlds O (mFlds O b.2 a.1.1).2 b.1.1).1 < x.1 from hA)]; exact ⟨rfl,hc_w6,hF06⟩
 rw [if_neg (show ¬ (mFlds O (mFlds O b.2 a.1.1).2 b.1.1).1 < x.1 from by show ¬ (O.flds (mFlds O b.2 a.1.1).2.s b.1.1).1 < x.1; exact Int.not_lt.2 hA)]
 obtain ⟨S,hS⟩ : ∃ S,S = (mFlds O (mFlds O b.2 a.1.1).2 b.1.1).2 := ⟨_,rfl⟩
 have hcS : S.copied = σ.copied := by rw [hS]; simp only [mFlds]; rw [hs2,hs1]
 have hc7 : CT O I OK n0 w6.drew.heap m K D S δ := by rw [hS]; exact hc_w6
 rw [<- hS]
 replace hF06 : Fr OK w.heap w6.drew.heap := hF06
 rw [wv_eq]
 generalize w6.drew = w7 at *
 obtain ⟨f,hfe⟩ := Int.eq_ofNat_of_zero_le hf.1
 refine ⟨_,hc7.d0,_,hc7.d2,?_⟩
 rw [onPtr_some]
 have hfN : δ.f.toNat = f := by rw [hfe]; rfl
 refine chk_of (by rw [hfe]; simp; omega) ⟨_,by rw [hfN]; exact hc7.inv.ccopied (k := f) (by omega),?_⟩
 unfold dCopyEnd dCopyTo
 rw [hfN] at hcp ⊢
 rw [hcS]
 obtain ⟨fr,hfr⟩ : ∃ fr,fr = σ.copied.getD f 0 := ⟨_,rfl⟩
 rw [<- hfr] at hcp ⊢
 obtain ⟨to_,hto⟩ : ∃ t,t = if IntKind.wrap .i64 (fr + 4) < x.1 then IntKind.wrap .i64 (fr + 4) else x.1 := ⟨_,rfl⟩
 have htn : to_ <= x.1 := by rw [hto]; split <;> omega
 rw [<- hto]
 refine ⟨fun t w' => ∃ k : Nat,t = fr + (k : Int) /\ k <= (to_ - fr).toNat /\ CT O I OK n0 w'.heap m K D (mCopyN O S a.1.1 b.1.1 fr k) δ /\ Fr OK w.heap w'.heap,fun t _ => (to_ - t).toNat,⟨0,by simp,Nat.zero_le _,hc7,hF06⟩,?_⟩
 rintro t w8 ⟨k,rfl,hk,hc8,hF8⟩
 refine br_of (fun hB => ?_) (fun hB => ?_) <;> simp only [ZJ,ZK,ZL,ZM,ZN,ZO,ZP,ZQ,ZR] at hB
 ·refine ⟨_,hc8.d0,?_⟩
  rw [onPtr_some]
  refine ⟨.iface K.st K.s,hc8.inv.c5,?_⟩
  rw [onIface_some]
  obtain ⟨o_w9,ho_w9,hS_w9,back_w9⟩ := hc8.inv.store
  obtain ⟨fn_w9,rc_w9,hm1_w9,hm2_w9,hm3_w9⟩ := hc8.inv.sp.get a.1.1 (fr+(k:Int)) hS_w9 hle1
  refine ⟨fn_w9,rc_w9,hm1_w9,?_⟩
  rw [hm2_w9,chk_true]
  refine hm3_w9.mono ?_; rintro _ w9 ⟨rfl,hS'_w9,hF_w9⟩
  obtain ⟨hM_w9,hFo_w9⟩ := back_w9 _ _ hS'_w9 hF_w9
  have hc_w9 := hc8.to hM_w9 hFo_w9
  refine ⟨_,_,rfl,?_⟩
  refine ⟨_,hc_w9.d0,?_⟩
  rw [onPtr_some]
  refine ⟨.iface K.st K.s,hc_w9.inv.c5,?_⟩
  rw [onIface_some]
  obtain ⟨o_wA,ho_wA,hS_wA,back_wA⟩ := hc_w9.inv.store
  obtain ⟨fn_wA,rc_wA,hm1_wA,hm2_wA,hm3_wA⟩ := hc_w9.inv.sp.put b.1.1 (fr+(k:Int)) _ hS_wA hle2
  refine ⟨fn_wA,rc_wA,hm1_wA,?_⟩
  rw [hm2_wA,chk_true]
  refine hm3_wA.mono ?_; rintro _ wA ⟨rfl,hS'_wA,hF_wA⟩
  obtain ⟨hM_wA,hFo_wA⟩ := back_wA _ _ hS'_wA hF_wA
  have hc_wA := hc_w9.to hM_wA hFo_wA
  rw [wrap_id (by omega) (by omega)]
  exact ⟨_,rfl,⟨k + 1,by omega,by omega,hc_wA,(hF8.trans' hFo_w9).trans' hFo_wA⟩,by (first | omega | (dsimp only; omega))⟩
 ·obtain rfl : k = (to_ - fr).toNat := by omega
  have hc9 : CT O I OK n0 w8.drew.heap m K D (mCopyN O S a.1.1 b.1.1 fr (to_ - fr).toNat) δ := hc8
  replace hF8 : Fr OK w.heap w8.drew.heap := hF8
  rw [wv_eq]
  generalize w8.drew = w9 at *
  generalize mCopyN O S a.1.1 b.1.1 fr (to_ - fr).toNat = R at *
  dsimp only
  refine ⟨_,hc9.d0,_,hc9.d2,?_⟩
  rw [onPtr_some]
  refine chk_of (by rw [hfe]; simp; omega) ?_
  rw [hfN]
  refine hc9.inv.scopied (k := f) (by omega) to_ ?_; intro wA hMA hFA _ _
  have hcA := hc9.to hMA hFA
  have hFA' := hF8.trans' hFA
  refine ⟨trivial,?_⟩
  refine br_of (fun hC => ?_) (fun hC => ?_) <;> simp only [ZJ,ZK,ZL,ZM,ZN,ZO,ZP,ZQ,ZR] at hC
  ·rw [if_pos hC]
   replace hcA : CT O I OK n0 wA.drew.heap m K D _ δ := hcA
   replace hFA' : Fr OK w.heap wA.drew.heap := hFA'
   rw [wv_eq]
   generalize wA.drew = wB at *
   refine ⟨_,hcA.d0,?_⟩
   rw [onPtr_some]
   refine ⟨_,hcA.inv.c6,_,hcA.d2,_,hcA.d4,?_⟩
   obtain ⟨o,ho,hP,back⟩ := hcA.inv.pool
   refine (frame_Goto_ok hP δ.f _).mono ?_; rintro _ wC ⟨rfl,hPC,hFC⟩
   obtain ⟨hMC,hFoC⟩ := back _ _ hPC hFC
   have hcC := hcA.to hMC hFoC
   exact ⟨_,rfl,⟨hcC.d0,trivial⟩,rfl,hcC,hFA'.trans' hFoC⟩
  ·rw [if_neg (by omega)]
   replace hcA : CT O I OK n0 wA.drew.heap m K D _ δ := hcA
   replace hFA' : Fr OK w.heap wA.drew.heap := hFA'
   rw [wv_eq]
   generalize wA.drew = wB at *
   refine ⟨_,hcA.d0,_,hcA.d2,?_⟩
   rw [onPtr_some]
   refine chk_of (by rw [hfe]; simp; omega) ?_
   rw [hfN]
   refine hcA.inv.scopied (k := f) (by omega) 0 ?_; intro wC hMC hFC _ _
   have hcC := hcA.to hMC hFC
   refine ⟨trivial,?_⟩
   refine (act_num_ok x.1 wC).mono ?_; rintro _ _ ⟨rfl,n5,rfl⟩
   refine ⟨_,rfl,?_⟩
   refine (act_answer_ok (w := dr wC n5) hcC 3 (by omega) _).mono ?_; rintro _ wD ⟨rfl,hcD,hFD⟩
   exact ⟨_,rfl,rfl,hcD,(hFA'.trans' hFC).trans' (h1 := wC.heap) hFD⟩
theorem negAt_eq : ∀ {l : List Int} {k : Nat},k <= l.length -> (∀ j,j < k -> 0 <= l.getD j 0) -> (k < l.length -> l.getD k 0 < 0) -> negAt l = k
 | [],k,h,_,_ => by simp at h; simp [negAt,h]
 | x :: r,0,_,_,h => by have := h (by simp); simp at this; simp [negAt,this]
 | x :: r,k + 1,h,h1,h2 => by
  have h0 := h1 0 (by omega)
  simp at h0
  have ih := negAt_eq (l := r) (k := k) (by simpa using h) (fun j hj => by have := h1 (j + 1) (by omega); simpa using this) (fun hk => by have := h2 (by simpa using hk); simpa using this)
  unfold negAt
  rw [if_neg (by omega),ih]
theorem mTake_same {σ : TM α} {i self sender home serial : Int} {args : List Int} : (mTake σ i self args sender home serial).2 = { σ with pool := (mTake σ i self args sender home serial).2.pool,kept := (mTake σ i self args sender home serial).2.kept,copied := (mTake σ i self args sender home serial).2.copied } := by
 unfold mTake
 simp only
 split
 ·rfl
 ·split <;> rfl
theorem act_fork_ok (hc : CT O I OK n0 w.heap m K D σ δ) (hg : UGood σ.u) (h2 : 2 <= δ.x.stack.length) (hL : σ.pool.used.length = 24) (hq : QInv σ.queue) (hT : σ.top.length = 6) : Calls P F.Z2t #[.pointer (some ⟨D.d,0,none⟩)] w (DTo O I OK n0 m K D δ (.int .i64 (dFork O σ δ).1) (dFork O σ δ).2 w) := by
 refine oZ2t ?_
 refine (act_under_ok hc (n := 1) (by omega)).mono ?_; rintro _ _ ⟨rfl,n1,rfl⟩
 refine ⟨_,rfl,?_⟩
 refine (act_block_ok (w := dr w n1) hc _ _).mono ?_; rintro _ w1 ⟨rfl,hc1,hF1⟩
 replace hF1 : Fr OK w.heap w1.heap := hF1
 refine ⟨_,_,_,_,_,rfl,?_⟩
 unfold dFork
 dsimp only
 have hbu := dBlock_u O σ (dUnder δ 1) 0
 have hok : (dBlock O σ (dUnder δ 1) 0).1.2 = true -> 0 <= (wNum (dBlock O σ (dUnder δ 1) 0).1.1.a).1 /\ (wNum (dBlock O σ (dUnder δ 1) 0).1.1.a).1 < σ.u.methods.length := by
  unfold dBlock
  split
  ·simp
  ·simp only
   split
   ·simp
   ·simp only [Bool.and_eq_true,ZJ]; omega
 generalize dBlock O σ (dUnder δ 1) 0 = B at *
 have hBu : B.2.u = σ.u := by rw [hbu]
 have hBp : B.2.pool = σ.pool := by rw [hbu]
 have hBt : B.2.top = σ.top := by rw [hbu]
 have hBq : B.2.queue = σ.queue := by rw [hbu]
 refine newB_i ?_; intro b w2 b_eq hb2 hN2 w2_sz; try simp only [drew_heap',dr_heap] at b_eq hN2
 refine stores_i hb2 (by simp [sets_length]) ?_; intro w3 hb3 hF3 w3_sz; try simp only [drew_heap',dr_heap] at w3_sz hF3
 simp only [sets,ZH,ZI] at hb3
 have hN13 : Nw w1.heap w3.heap := hN2.st hF3 (by omega)
 have hF03 := hF1.trans' hN13.ok
 have hc3 := hc1.nw hN13
 refine (act_under_ok hc3 (n := 0) (by omega)).mono ?_; rintro _ _ ⟨rfl,n2,rfl⟩
 refine ⟨_,rfl,?_⟩
 refine (word_Num_ok _ (dr w3 n2)).mono ?_; rintro _ _ ⟨rfl,n3,rfl⟩
 refine ⟨_,_,rfl,?_⟩
 have hcS : CT O I (Sub OK w1.heap.size w3.heap.size) w3.heap.size (dr (dr w3 n2) n3).heap m K D B.2 δ := hc1.sub hN13
 have hb4 : Bk (dr (dr w3 n2) n3).heap b [.int .u32 B.1.1.a,.int .u32 B.1.1.b,.int .u32 B.1.1.c,.int .u32 B.1.1.d] := hb3
 have hc4 : CT O I OK n0 (dr (dr w3 n2) n3).heap m K D B.2 δ := hc3
 have hF04 : Fr OK w.heap (dr (dr w3 n2) n3).heap := hF03
 have hb := hb3.lt; have hle := hN13.le
 have hsz4 : (dr (dr w3 n2) n3).heap.size = w3.heap.size := rfl
 have hN14 : Nw w1.heap (dr (dr w3 n2) n3).heap := hN13
 generalize dr (dr w3 n2) n3 = w4 at *
 generalize wNum (dUnder δ 0) = x at *
 refine ⟨fun t w' => ∃ k : Nat,t = (k : Int) /\ k <= 6 /\ (∀ j,j < k -> 0 <= B.2.top.getD j 0) /\ w4 = w',fun t _ => 6 - t.toNat,⟨0,rfl,by omega,fun j hj => by omega,rfl⟩,?_⟩
 rintro t _ ⟨k,rfl,hk,hneg,rfl⟩
 have hc6 := hc4; have hF6 := hF04
 refine br_of (fun h4 => ?_) (fun h4 => ?_) <;> simp only [ZJ,ZK,ZL,ZM,ZN,ZO,ZP,ZQ,ZR] at h4
 ·refine ⟨_,hc6.d0,?_⟩
  rw [onPtr_some]
  refine chk_of (by simp; omega) ⟨_,by rw [Int.toNat_natCast]; exact hc6.inv.ctop (k := k) (by omega),?_⟩
  refine br_of (fun hx => ?_) (fun hx => ?_) <;> simp only [ZJ,ZK,ZL,ZM,ZN,ZO,ZP,ZQ,ZR] at hx
  ·rw [wrap_id (by omega) (by omega)]
   refine ⟨⟨k + 1,rfl,by omega,fun j hj => ?_,rfl⟩,by (first | omega | (dsimp only; omega))⟩
   by_cases hjk : j = k
   ·rw [hjk]; exact hx
   ·exact hneg j (by omega)
  have hnk : negAt B.2.top = k := negAt_eq (by rw [hBt,hT]; omega) hneg (fun _ => hx)
  refine br_of (fun h5 => ?_) (fun h5 => ?_) <;> simp only [ZL,ZM] at h5
  ·rw [if_pos h5]; exact ⟨rfl,hc6,hF6⟩
  rw [if_neg (show ¬ B.1.2 = false by rw [h5]; simp)]
  refine br_of (fun h6 => ?_) (fun h6 => ?_) <;> simp only [ZL,ZM] at h6
  ·rw [if_pos h6]; exact ⟨rfl,hc6,hF6⟩
  rw [if_neg (show ¬ x.2 = false by rw [h6]; simp)]
  refine br_of (fun h7 => ?_) (fun h7 => ?_) <;> simp only [ZJ,ZK,ZL,ZM,ZN,ZO,ZP,ZQ,ZR] at h7
  ·rw [if_pos h7]; exact ⟨rfl,hc6,hF6⟩
  rw [if_neg (show ¬ x.1 < 0 by omega)]
  refine br_of (fun h8 => ?_) (fun h8 => ?_) <;> simp only [ZJ,ZK,ZL,ZM,ZN,ZO,ZP,ZQ,ZR] at h8
  ·rw [if_pos h8]; exact ⟨rfl,hc6,hF6⟩
  rw [if_neg (show ¬ 4 <= x.1 by omega)]
  rw [show decide ((k : Int) = 6) = false by simp; omega,br_false,if_neg (show ¬ negAt B.2.top = 6 by omega)]
  refine ⟨_,hc6.d0,?_⟩
  rw [onPtr_some]
  refine ⟨_,hc6.inv.c6,?_⟩
  obtain ⟨o,ho,hP,_⟩ := hc6.inv.pool
  refine (frame_Free_ok hP).mono ?_; rintro _ _ ⟨rfl,n4,rfl⟩
  refine ⟨_,rfl,?_⟩
  refine br_of (fun h9 => ?_) (fun h9 => ?_) <;> simp only [ZJ,ZK,ZL,ZM,ZN,ZO,ZP,ZQ,ZR] at h9
  ·rw [if_pos (by omega)]; exact ⟨rfl,hc6,hF6⟩
  rw [if_neg (by omega)]
  have hcS' : CT O I (Sub OK w1.heap.size w3.heap.size) w3.heap.size (dr w4 n4).drew.heap m K D B.2 δ := hcS
  have hb4' : Bk (dr w4 n4).drew.heap b [.int .u32 B.1.1.a,.int .u32 B.1.1.b,.int .u32 B.1.1.c,.int .u32 B.1.1.d] := hb4
  have hN14' : Nw w1.heap (dr w4 n4).drew.heap := hN14
  rw [wv_eq]
  generalize (dr w4 n4).drew = w5 at *
  refine ⟨_,hcS'.d0,B.1.1.a,B.1.1.b,B.1.1.c,B.1.1.d,hb4'.holds,?_⟩
  rw [onPtr_some]
  refine (act_begin_ok hcS' (by rw [hBu]; exact hg) (Sl.nil (ok := fun _ => True)) (by omega) B.1.1 (by rw [hBu]; exact hok h5) (by rw [hBp]; exact hL) (-1)).mono ?_
  rintro _ w6 ⟨rfl,hc7,hF7⟩
  have hts : (dBegin B.2 B.1.1 [] (-1)).2.top = σ.top /\ (dBegin B.2 B.1.1 [] (-1)).2.queue = σ.queue := by
   unfold dBegin; rw [mTake_same]; exact ⟨hBt,hBq⟩
  refine ⟨_,rfl,⟨hc7.d0,trivial⟩,chk_of (by simp; omega) ?_⟩
  rw [hnk,Int.toNat_natCast]
  generalize dBegin B.2 B.1.1 [] (-1) = G at *
  refine hc7.inv.stop (k := k) (by omega) _ ?_; intro w7 hM8 hF8 _ _
  have hc8 := hc7.to hM8 hF8
  refine ⟨trivial,_,hc8.d0,?_⟩
  rw [onPtr_some]
  refine ⟨_,hc8.inv.c7,?_⟩
  obtain ⟨o',ho',hQ,back⟩ := hc8.inv.queue
  refine (queue_Ready_ok hQ (by show QInv G.2.queue; rw [hts.2]; exact hq) k x.1).mono ?_; rintro _ w8 ⟨t,rfl,hQ9,hF9⟩
  obtain ⟨hM9,hFo9⟩ := back _ _ hQ9 hF9
  have hc9 := hc8.to hM9 hFo9
  refine ⟨_,rfl,?_⟩
  refine (act_num_ok _ w8).mono ?_; rintro _ _ ⟨rfl,n5,rfl⟩
  refine ⟨_,rfl,?_⟩
  refine (act_answer_ok (w := dr w8 n5) hc9 2 (by omega) _).mono ?_; rintro _ w9 ⟨rfl,hcA,hFA⟩
  have hF59 : Fr (Sub OK w1.heap.size w3.heap.size) w5.heap w9.heap := ((hF7.trans' hF8).trans' hFo9).trans' (h1 := w8.heap) hFA
  have hF19 : Fr OK w1.heap w9.heap := hN14'.ok.trans' (hc1.inv.frsub hF59 hle)
  exact ⟨_,rfl,rfl,⟨hc1.inv.unsub hcA.inv hle hcA.inv.le,hc1.dn.fr hF19⟩,hF1.trans' hF19⟩
 ·obtain rfl : k = 6 := by omega
  have hnk : negAt B.2.top = 6 := negAt_eq (by rw [hBt,hT]; omega) hneg (fun h => by rw [hBt,hT] at h; omega)
  refine br_of (fun h5 => ?_) (fun h5 => ?_) <;> simp only [ZL,ZM] at h5
  ·rw [if_pos h5]; exact ⟨rfl,hc6,hF6⟩
  rw [if_neg (show ¬ B.1.2 = false by rw [h5]; simp)]
  refine br_of (fun h6 => ?_) (fun h6 => ?_) <;> simp only [ZL,ZM] at h6
  ·rw [if_pos h6]; exact ⟨rfl,hc6,hF6⟩
  rw [if_neg (show ¬ x.2 = false by rw [h6]; simp)]
  refine br_of (fun h7 => ?_) (fun h7 => ?_) <;> simp only [ZJ,ZK,ZL,ZM,ZN,ZO,ZP,ZQ,ZR] at h7
  ·rw [if_pos h7]; exact ⟨rfl,hc6,hF6⟩
  rw [if_neg (show ¬ x.1 < 0 by omega)]
  refine br_of (fun h8 => ?_) (fun h8 => ?_) <;> simp only [ZJ,ZK,ZL,ZM,ZN,ZO,ZP,ZQ,ZR] at h8
  ·rw [if_pos h8]; exact ⟨rfl,hc6,hF6⟩
  rw [if_neg (show ¬ 4 <= x.1 by omega)]
  rw [show decide (((6 : Nat) : Int) = 6) = true by decide,br_true,if_pos hnk]
  exact ⟨rfl,hc6,hF6⟩
end
end
section
def UnitTo (u : TUnit) (w : World) : Ending -> World -> Prop := fun en w' => ∃ c : CUnit,en = .returned (.agg #[.slice c.names.p c.names.n c.names.c,.slice c.classes.p c.classes.n c.classes.c,.slice c.methods.p c.methods.n c.methods.c,.slice c.objects.p c.objects.n c.objects.c,.int .i64 c.main]) /\ IsUnit w'.heap (Fresh w.heap) c u /\ Nw w.heap w'.heap
theorem take_succ_some {α : Type} {l : List α} {k : Nat} {x : α} (h : l[k]? = some x) : l.take (k + 1) = l.take k ++ [x] := by
 obtain ⟨hk,rfl⟩ := List.getElem?_eq_some_iff.1 h
 exact List.take_succ_eq_append_getElem hk
structure Made1 {α β : Type} (E : Enc α) (I : Hp -> (Nat -> Prop) -> α -> β -> Prop) (h h0 : Hp) (q : Option Addr) (m d : Nat) (L : List β) (T : Nat -> Prop) : Prop where
 l : ∃ l : List α,Sl h T E q m d l /\ All2 (I h fun y => h0.size <= y /\ ¬ T y) l L
 new : ∀ y,T y -> h0.size <= y
theorem Made1.nil {α β : Type} {E : Enc α} {I : Hp -> (Nat -> Prop) -> α -> β -> Prop} (h h0 : Hp) : Made1 E I h h0 none 0 0 [] (fun _ => False) := ⟨⟨[],Sl.nil,All2.nil⟩,fun _ h => h.elim⟩
theorem Made1.done {α β : Type} {E : Enc α} {I : Hp -> (Nat -> Prop) -> α -> β -> Prop} {h h0 : Hp} {q : Option Addr} {m d : Nat} {L : List β} {T : Nat -> Prop} (hm : Made1 E I h h0 q m d L T)
  (hI : ∀ {x : α} {y : β} {o o' : Nat -> Prop},I h o x y -> (∀ z,z < h.size -> o z -> o' z) -> I h o' x y) : ∃ l : List α,Sl h (fun y => h0.size <= y) E q m d l /\ All2 (I h fun y => h0.size <= y) l L := by
 obtain ⟨⟨l,h1,h2⟩,h3⟩ := hm
 exact ⟨l,h1.mono fun y _ h => h3 y h,h2.mono fun x y hr => hI hr fun z _ h => h.1⟩
theorem Made1.push {α β : Type} {E : Enc α} {I : Hp -> (Nat -> Prop) -> α -> β -> Prop} {h h13 h14 h15 h0 : Hp} {q q' : Option Addr} {m d d' b2 : Nat} {L : List β} {T : Nat -> Prop} {x : α} {y : β} {l : List α} (h1 : Sl h T E q m d l) (h2 : All2 (I h fun y => h0.size <= y /\ ¬ T y) l L) (h3 : ∀ y,T y -> h0.size <= y)
  (hI : ∀ {x : α} {y : β} {h h' : Hp} {S o o' : Nat -> Prop},I h o x y -> Fr S h h' -> (∀ z,z < h.size -> o z -> ¬ S z) -> (∀ z,z < h.size -> o z -> o' z) -> I h' o' x y)
  (h0h : h0.size <= h.size) (hb2 : b2 < h0.size) (hN : Nw h h13)
  (a1 : Sl h14 (Old (fun z => T z /\ z < h.size) h13) E q' (m + 1) d' (l ++ [x])) (a2 : Fr (fun z => T z /\ z < h.size) h13 h14) (hF : Fr (fun z => z = b2) h14 h15)
  (hx : I h13 (fun z => h.size <= z) x y) : Made1 E I h15 h0 q' (m + 1) d' (L ++ [y]) (Old (fun z => T z /\ z < h.size) h13) := by
 have hF13 : Fr (fun z => (T z /\ z < h.size) \/ z = b2) h13 h15 := a2.trans hF (fun _ _ h => .inl h) (fun _ _ h => .inr h)
 have hF7 : Fr (fun z => (T z /\ z < h.size) \/ z = b2) h h15 := hN.fr.trans hF13 (fun _ _ h => h) (fun _ _ h => h)
 have hle := hN.le
 refine ⟨⟨l ++ [x],a1.fr hF (fun z _ hz e => ?_) (fun _ _ h => h),?_⟩,fun z hz => ?_⟩
 ·rcases hz with hz | hz
  ·have := h3 z hz.1; omega
  ·omega
 ·refine (h2.mono fun r s hr => ?_).append (All2.cons ?_ All2.nil)
  ·exact hI hr hF7 (fun z hz ho e => by rcases e with e | e; exact ho.2 e.1; omega) (fun z hz ho => ⟨ho.1,fun e => by rcases e with e | e; exact ho.2 e.1; omega⟩)
  ·exact hI hx hF13 (fun z hz ho e => by rcases e with e | e <;> omega) (fun z hz ho => ⟨by omega,fun e => by rcases e with e | e <;> omega⟩)
 ·rcases hz with hz | hz
  ·exact h3 z hz.1
  ·omega
section
variable {w : World} {ok : Nat -> Prop} {c : CUnit} {u : TUnit}
theorem unit_Copy_ok (hu : IsUnit w.heap ok c u) (hg : UGood u) : Calls P F.Zj #[.agg #[.slice c.names.p c.names.n c.names.c,.slice c.classes.p c.classes.n c.classes.c,.slice c.methods.p c.methods.n c.methods.c,.slice c.objects.p c.objects.n c.objects.c,.int .i64 c.main]] w (UnitTo u w) := by
 refine oZj ?_
 refine newB_i ?_; intro b w1 b_eq hB hN w1_sz; try simp only [drew_heap',dr_heap] at b_eq hN
 refine newB_i ?_; intro b1 w2 b1_eq hB1 hN1 w2_sz; try simp only [drew_heap',dr_heap] at b1_eq hN1
 replace hB := hB.nw hN1
 have hN2 := hN.tr hN1
 obtain ⟨lc,hc,hcA⟩ := hu.classes
 obtain ⟨lm,hm,hmA⟩ := hu.methods
 obtain ⟨lo,ho,hoA⟩ := hu.objects
 have hcn : c.classes.n = u.classes.length := by rw [<- hc.len,hcA.len]
 have hmn : c.methods.n = u.methods.length := by rw [<- hm.len,hmA.len]
 have hon : c.objects.n = u.objects.length := by rw [<- ho.len,hoA.len]
 have hnn : c.names.n = u.names.length := hu.names.len.symm
 obtain ⟨g1,g2,g3,g4,g5⟩ := hg.len
 obtain ⟨g6,g7⟩ := hg.classes.len
 refine ⟨c.names.p,c.names.n,c.names.c,by rw [World.cell?_drew,hB.cell]; rfl,c.main,by rw [World.cell?_drew,hB.cell]; rfl,?_,?_⟩
 ·refine (slices_Clone_string_string_ok (w := w2.drew) (hu.names.nw hN2) (by omega)).mono ?_; rintro _ w3 ⟨q3,c3,rfl,h3,hN3⟩
  replace hN3 : Nw w2.heap w3.heap := hN3
  have hB3 := hB.nw hN3
  refine ⟨q3,_,c3,rfl,⟨by rw [hB3.cell]; rfl,trivial⟩,?_,?_⟩
  ·refine (slices_Clip_string_string_ok h3).mono ?_; rintro _ w3 ⟨pn,rfl,rfl,h4⟩
   refine ⟨pn,_,_,rfl,⟨by rw [hB3.cell]; rfl,trivial⟩,?_⟩
   refine newB_i ?_; intro b2 w5 b2_eq hB5 hN5 w5_sz; try simp only [drew_heap',dr_heap] at b2_eq hN5
   have hB35 := hB3.nw hN5
   refine ⟨⟨by rw [hB35.cell]; rfl,trivial⟩,?_⟩
   refine stores_i hB5 (by simp [sets_length]) ?_; intro w6 hO6 hF6 w6_sz; try simp only [drew_heap',dr_heap] at w6_sz hF6
   simp only [sets,ZH,ZI] at hO6
   have hB6 := hB35.fr hF6 (by have := hB3.lt; omega)
   have hB16 := ((hB1.nw hN3).nw hN5).fr hF6 (by have := (hB1.nw hN3).lt; omega)
   have hNw6 : Nw w.heap w6.heap := ((hN2.tr hN3).tr hN5).st hF6 (by have := (hN2.tr hN3).le; omega)
   have hl2 := (hN2.tr hN3).le
   have hb2w : w.heap.size <= b2 := by omega
   have hb1w : w.heap.size <= b1 := by have := hN.le; omega
   have hb26 : b2 < w6.heap.size := hO6.lt
   have hb12 : b1 ≠ b2 := by have := (hB1.nw hN3).lt; omega
   have hbb2 : b ≠ b2 := by have := hB3.lt; omega
   have hnm : Sl w6.heap (fun y => w.heap.size <= y /\ y ≠ b2 /\ y ≠ b1) eStr pn c.names.n c.names.n u.names := by
    exact ((h4.mono (ok' := fun y => w2.heap.size <= y /\ y < w3.heap.size) fun y hy h => ⟨h,hy⟩).nw hN5).fr hF6 (fun y _ h => by have := h.2; omega) (fun y _ h => by have := h.1; have := h.2; have := hN2.le; exact ⟨by omega,by omega,by omega⟩)
   refine ⟨trivial,?_⟩
   refine ⟨c.classes.p,c.classes.n,c.classes.c,by rw [hB6.cell]; rfl,?_⟩
   refine ⟨fun t w' => ∃ (k : Nat) (q : Option Addr) (m d : Nat) (T : Nat -> Prop),t = (k : Int) /\ k <= c.classes.n /\ k = m /\ Bk w'.heap b c.vs /\ Bk w'.heap b2 [.slice pn c.names.n c.names.n,.slice q m d,.slice none 0 0,.slice none 0 0,.int .i64 c.main] /\ Made1 eClass IsClass w'.heap w6.heap q m d (u.classes.take k) T /\ Fr (fun y => y = b2) w6.heap w'.heap,fun t _ => c.classes.n - t.toNat,⟨0,none,0,0,_,rfl,Nat.zero_le _,rfl,hB6,hO6,Made1.nil _ _,Fr.refl _ _⟩,?_⟩
   rintro t w7 ⟨k,q,m,d,TT,rfl,hk,rfl,hB7,hO7,hM7,hF67⟩
   have hN7 : Nw w.heap w7.heap := hNw6.tr' hF67 fun y h => by rw [h]; exact hb2w
   have hle67 := hF67.le
   refine br_of (fun h1 => ?_) (fun h1 => ?_) <;> simp only [ZJ,ZK,ZL,ZM,ZN,ZO,ZP,ZQ,ZR] at h1
   ·refine chk_of (by simp; omega) ?_
    obtain ⟨r,x,hr,hx,hrx⟩ := hcA.getL (i := k) (by omega)
    refine (hc.nw hN7).idx hr ?_; intro g o _ hh
    refine ⟨_,_,_,_,_,_,hh,?_⟩
    refine newB_i ?_; intro b3 w8 b3_eq hB8 hN8 w8_sz; try simp only [drew_heap',dr_heap] at b3_eq hN8
    refine stores_i hB8 (by simp [sets_length]) ?_; intro w9 hB9 hF9 w9_sz; try simp only [drew_heap',dr_heap] at w9_sz hF9
    simp only [sets,ZH,ZI] at hB9
    have hN9 : Nw w7.heap w9.heap := hN8.st hF9 (by omega)
    have hN09 := hN7.tr hN9
    refine ⟨r.binds.p,r.binds.n,r.binds.c,by rw [hB9.cell]; rfl,?_⟩
    have hbl := hrx.binds.len; have hbg := (hg.classes.all k x hx).bnd.len
    refine (slices_Clone_api_Bind_api_Bind_ok (hrx.binds.nw hN09) (by omega)).mono ?_; rintro _ wA ⟨qA,cA,rfl,hA,hNA⟩
    refine ⟨_,_,_,rfl,?_⟩
    refine (slices_Clip_api_Bind_api_Bind_ok hA).mono ?_; rintro _ wA ⟨qB,rfl,rfl,hAB⟩
    refine ⟨_,_,_,rfl,?_⟩
    have hBA := hB9.nw hNA
    refine stores_i hBA (by simp [sets_length]) ?_; intro wC hBC hFC wC_sz; try simp only [drew_heap',dr_heap] at wC_sz hFC
    simp only [sets,ZH,ZI] at hBC
    have hlt9 := hB9.lt; have hle9 := hN9.le; have hleA := hNA.le
    have hNC : Nw w7.heap wC.heap := (hN9.tr hNA).st hFC (by omega)
    have hOC := hO7.nw hNC
    refine ⟨q,k,d,by rw [hOC.cell]; rfl,r.name,r.super,r.fields,qB,r.binds.n,r.binds.n,hBC.holds,?_⟩
    refine newB_i ?_; intro b4 wD b4_eq hBD hND wD_sz; try simp only [drew_heap',dr_heap] at b4_eq hND
    have hND7 := hNC.tr hND
    have hs1 : Sl wD.heap (fun y => y = b4) eClass (some ⟨b4,0,none⟩) 1 1 [⟨r.name,r.super,r.fields,⟨qB,r.binds.n,r.binds.n⟩⟩] := (Sl.of_blk (l := [(⟨r.name,r.super,r.fields,⟨qB,r.binds.n,r.binds.n⟩⟩ : CClass)]) (E := eClass) hBD rfl rfl (by simp)).mono fun _ _ h => h.symm
    obtain ⟨⟨lk,hl1,hl2⟩,hl3⟩ := hM7
    refine append_r ty_class ((hl1.mono (ok' := fun z => TT z /\ z < w7.heap.size) fun z hz hT => ⟨hT,hz⟩).nw hND7) hs1 (by omega) ?_
    intro qE cE wE hE hFE
    have hOE := (hOC.nw hND).fr hFE (fun h => by have := hl3 _ h.1; omega)
    refine stores_i hOE (by simp [sets_length]) ?_; intro wF hOF hFF wF_sz; try simp only [drew_heap',dr_heap] at wF_sz hFF
    simp only [sets,ZH,ZI] at hOF
    have hBF := (((hB7.nw hNC).nw hND).fr hFE (fun h => by have := hl3 _ h.1; omega)).fr hFF hbb2
    have hbind : IsClass wD.heap (fun z => w7.heap.size <= z) ⟨r.name,r.super,r.fields,⟨qB,r.binds.n,r.binds.n⟩⟩ x := ⟨hrx.name,hrx.super,hrx.fields,(hAB.fr hFC (fun z _ hz e => by have : w9.heap.size <= z := hz; omega) (fun z _ hz => hz)).fr hND (fun _ _ _ h => h) (fun z _ hz => by have : w9.heap.size <= z := hz; omega)⟩
    rw [wrap_id (by omega) (by omega)]
    refine ⟨⟨k + 1,qE,k + 1,cE,Old (fun z => TT z /\ z < w7.heap.size) wD.heap,rfl,by omega,rfl,hBF,hOF,?_,?_⟩,by (first | omega | (dsimp only; omega))⟩
    ·rw [take_succ_some hx]
     exact Made1.push hl1 hl2 hl3 (fun h hf hd hok => IsClass.fr h hf hd hok) hle67 hb26 hND7 hE hFE hFF hbind
    ·exact ((hF67.trans hND7.fr (fun _ _ h => h) (fun _ _ h => h)).trans (T := fun y => y = b2) hFE (fun _ _ h => h) (fun z hz h => by have := hl3 _ h.1; omega)).trans hFF (fun _ _ h => h) (fun _ _ h => h)
   obtain ⟨lc',hlc1,hlc2⟩ := hM7.done (fun h hok => IsClass.fr h (Fr.refl (fun _ => False) _) (fun _ _ _ h => h) hok)
   rw [List.take_of_length_le (by omega)] at hlc2
   refine ⟨c.methods.p,c.methods.n,c.methods.c,by rw [hB7.cell]; rfl,?_⟩
   refine ⟨fun t w' => ∃ (j : Nat) (q2 : Option Addr) (m2 d2 : Nat) (T : Nat -> Prop),t = (j : Int) /\ j <= c.methods.n /\ j = m2 /\ Bk w'.heap b c.vs /\ Bk w'.heap b2 [.slice pn c.names.n c.names.n,.slice q k d,.slice q2 m2 d2,.slice none 0 0,.int .i64 c.main] /\ Made1 eMethod IsMethod w'.heap w7.heap q2 m2 d2 (u.methods.take j) T /\ Fr (fun y => y = b2) w7.heap w'.heap,fun t _ => c.methods.n - t.toNat,⟨0,none,0,0,_,rfl,Nat.zero_le _,rfl,hB7,hO7,Made1.nil _ _,Fr.refl _ _⟩,?_⟩
   rintro t v7 ⟨j,q2,m2,d2,TM,rfl,hj,rfl,hvB,hvO,hvM,hvF⟩
   have hvN : Nw w.heap v7.heap := hN7.tr' hvF fun y h => by rw [h]; exact hb2w
   have hvle := hvF.le
   refine br_of (fun h2 => ?_) (fun h2 => ?_) <;> simp only [ZJ,ZK,ZL,ZM,ZN,ZO,ZP,ZQ,ZR] at h2
   ·refine chk_of (by simp; omega) ?_
    obtain ⟨r,x,hr,hx,hrx⟩ := hmA.getL (i := j) (by omega)
    refine (hm.nw hvN).idx hr ?_; intro g o _ hh
    refine ⟨_,_,_,_,_,_,_,_,hh,?_⟩
    refine newB_i ?_; intro b3 w8 b3_eq hB8 hN8 w8_sz; try simp only [drew_heap',dr_heap] at b3_eq hN8
    refine stores_i hB8 (by simp [sets_length]) ?_; intro w9 hB9 hF9 w9_sz; try simp only [drew_heap',dr_heap] at w9_sz hF9
    simp only [sets,ZH,ZI] at hB9
    have hN9 : Nw v7.heap w9.heap := hN8.st hF9 (by omega)
    have hN09 := hvN.tr hN9
    refine ⟨r.lits.p,r.lits.n,r.lits.c,by rw [World.cell?_drew,hB9.cell]; rfl,r.code.p,r.code.n,r.code.c,by rw [World.cell?_drew,hB9.cell]; rfl,?_⟩
    have hsh := (hg.methods x (List.mem_of_getElem? hx)).short
    simp only [cShort,Bool.and_eq_true,ZJ] at hsh
    have hbl := hrx.lits.len; have hbc := hrx.code.len
    refine (slices_Clone_api_Val_api_Val_ok (w := w9.drew) (hrx.lits.nw hN09) (by omega)).mono ?_; rintro _ wA ⟨qA,cA,rfl,hA,hNA⟩
    replace hNA : Nw w9.heap wA.heap := hNA
    replace hA : Sl wA.heap (Fresh w9.heap) eVal qA r.lits.n cA x.lits := hA
    refine ⟨_,_,_,rfl,⟨by rw [(hB9.nw hNA).cell]; rfl,trivial⟩,?_⟩
    refine (slices_Clip_api_Val_api_Val_ok hA).mono ?_; rintro _ wA ⟨qB,rfl,rfl,hAB⟩
    refine ⟨_,_,_,rfl,⟨by rw [(hB9.nw hNA).cell]; rfl,trivial⟩,?_⟩
    refine (slices_Clone_byte_byte_ok ((hrx.code.nw hN09).nw hNA) (by omega)).mono ?_; rintro _ wG ⟨qG,cG,rfl,hG,hNG⟩
    refine ⟨_,_,_,rfl,trivial,?_⟩
    refine (slices_Clip_byte_byte_ok hG).mono ?_; rintro _ wG ⟨qH,rfl,rfl,hGH⟩
    refine ⟨_,_,_,rfl,trivial,?_⟩
    have hBA := (hB9.nw hNA).nw hNG
    refine stores_i hBA (by simp [sets_length]) ?_; intro wI hBI hFI wI_sz; try simp only [drew_heap',dr_heap] at wI_sz hFI
    refine ⟨trivial,?_⟩
    refine stores_i hBI (by simp [sets_length]) ?_; intro wC hBC hFC wC_sz; try simp only [drew_heap',dr_heap] at wC_sz hFC
    simp only [sets,ZH,ZI] at hBC
    have hlt9 := hB9.lt; have hle9 := hN9.le; have hleA := hNA.le; have hleG := hNG.le; have hleI := hFI.le; have hleC := hFC.le
    have hNC : Nw v7.heap wC.heap := (((hN9.tr hNA).tr hNG).st hFI (by omega)).st hFC (by omega)
    have hOC := hvO.nw hNC
    refine ⟨trivial,q2,j,d2,by rw [hOC.cell]; rfl,r.args,r.temps,qB,r.lits.n,r.lits.n,qH,r.code.n,r.code.n,hBC.holds,?_⟩
    refine newB_i ?_; intro b4 wD b4_eq hBD hND wD_sz; try simp only [drew_heap',dr_heap] at b4_eq hND
    have hND7 := hNC.tr hND
    have hs1 : Sl wD.heap (fun y => y = b4) eMethod (some ⟨b4,0,none⟩) 1 1 [⟨r.args,r.temps,⟨qB,r.lits.n,r.lits.n⟩,⟨qH,r.code.n,r.code.n⟩⟩] := (Sl.of_blk (l := [(⟨r.args,r.temps,⟨qB,r.lits.n,r.lits.n⟩,⟨qH,r.code.n,r.code.n⟩⟩ : CMethod)]) (E := eMethod) hBD rfl rfl (by simp)).mono fun _ _ h => h.symm
    obtain ⟨⟨lk,hl1,hl2⟩,hl3⟩ := hvM
    refine append_r ty_method ((hl1.mono (ok' := fun z => TM z /\ z < v7.heap.size) fun z hz hT => ⟨hT,hz⟩).nw hND7) hs1 (by omega) ?_
    intro qE cE wE hE hFE
    have hOE := (hOC.nw hND).fr hFE (fun h => by have := hl3 _ h.1; omega)
    refine stores_i hOE (by simp [sets_length]) ?_; intro wF hOF hFF wF_sz; try simp only [drew_heap',dr_heap] at wF_sz hFF
    simp only [sets,ZH,ZI] at hOF
    have hBF := (((hvB.nw hNC).nw hND).fr hFE (fun h => by have := hl3 _ h.1; omega)).fr hFF hbb2
    have hFIC : Fr (fun z => z = b3) wG.heap wC.heap := Fr.trans' hFI hFC
    have hbind : IsMethod wD.heap (fun z => v7.heap.size <= z) ⟨r.args,r.temps,⟨qB,r.lits.n,r.lits.n⟩,⟨qH,r.code.n,r.code.n⟩⟩ x :=
     ⟨hrx.args,hrx.temps,((hAB.nw hNG).fr hFIC (fun z _ hz e => by have : w9.heap.size <= z := hz; omega) (fun z _ hz => hz)).fr hND (fun _ _ _ h => h) (fun z _ hz => by have : w9.heap.size <= z := hz; omega),
      (hGH.fr hFIC (fun z _ hz e => by have : wA.heap.size <= z := hz; omega) (fun z _ hz => hz)).fr hND (fun _ _ _ h => h) (fun z _ hz => by have : wA.heap.size <= z := hz; omega),hrx.bytes⟩
    rw [wrap_id (by omega) (by omega)]
    refine ⟨⟨j + 1,qE,j + 1,cE,Old (fun z => TM z /\ z < v7.heap.size) wD.heap,rfl,by omega,rfl,hBF,hOF,?_,?_⟩,by (first | omega | (dsimp only; omega))⟩
    ·rw [take_succ_some hx]
     exact Made1.push hl1 hl2 hl3 (fun h hf hd hok => IsMethod.fr h hf hd hok) hvle (by omega) hND7 hE hFE hFF hbind
    ·exact ((hvF.trans hND7.fr (fun _ _ h => h) (fun _ _ h => h)).trans (T := fun y => y = b2) hFE (fun _ _ h => h) (fun z hz h => by have := hl3 _ h.1; omega)).trans hFF (fun _ _ h => h) (fun _ _ h => h)
   obtain ⟨lm',hlm1,hlm2⟩ := hvM.done (fun h hok => IsMethod.fr h (Fr.refl (fun _ => False) _) (fun _ _ _ h => h) hok)
   rw [List.take_of_length_le (by omega)] at hlm2
   refine ⟨c.objects.p,c.objects.n,c.objects.c,by rw [hvB.cell]; rfl,?_⟩
   refine ⟨fun t w' => ∃ (i : Nat) (q3 : Option Addr) (m3 d3 : Nat) (T : Nat -> Prop),t = (i : Int) /\ i <= c.objects.n /\ i = m3 /\ Bk w'.heap b c.vs /\ Bk w'.heap b2 [.slice pn c.names.n c.names.n,.slice q k d,.slice q2 j d2,.slice q3 m3 d3,.int .i64 c.main] /\ Made1 eObj IsObj w'.heap v7.heap q3 m3 d3 (u.objects.take i) T /\ Fr (fun y => y = b2) v7.heap w'.heap,fun t _ => c.objects.n - t.toNat,⟨0,none,0,0,_,rfl,Nat.zero_le _,rfl,hvB,hvO,Made1.nil _ _,Fr.refl _ _⟩,?_⟩
   rintro t x7 ⟨i,q3,m3,d3,TO,rfl,hi,rfl,hxB,hxO,hxM,hxF⟩
   have hxN : Nw w.heap x7.heap := hvN.tr' hxF fun y h => by rw [h]; exact hb2w
   have hxle := hxF.le
   refine br_of (fun h3 => ?_) (fun h3 => ?_) <;> simp only [ZJ,ZK,ZL,ZM,ZN,ZO,ZP,ZQ,ZR] at h3
   ·refine chk_of (by simp; omega) ?_
    obtain ⟨r,x,hr,hx,hrx⟩ := hoA.getL (i := i) (by omega)
    refine (ho.nw hxN).idx hr ?_; intro g o _ hh
    refine ⟨_,_,_,_,hh,?_⟩
    refine newB_i ?_; intro b3 w8 b3_eq hB8 hN8 w8_sz; try simp only [drew_heap',dr_heap] at b3_eq hN8
    refine stores_i hB8 (by simp [sets_length]) ?_; intro w9 hB9 hF9 w9_sz; try simp only [drew_heap',dr_heap] at w9_sz hF9
    simp only [sets,ZH,ZI] at hB9
    have hN9 : Nw x7.heap w9.heap := hN8.st hF9 (by omega)
    have hN09 := hxN.tr hN9
    refine ⟨r.fields.p,r.fields.n,r.fields.c,by rw [hB9.cell]; rfl,?_⟩
    have hbl := hrx.fields.len; have hbg := (hg.objects x (List.mem_of_getElem? hx)).len
    refine (slices_Clone_api_Val_api_Val_ok (hrx.fields.nw hN09) (by omega)).mono ?_; rintro _ wA ⟨qA,cA,rfl,hA,hNA⟩
    refine ⟨_,_,_,rfl,?_⟩
    refine (slices_Clip_api_Val_api_Val_ok hA).mono ?_; rintro _ wA ⟨qB,rfl,rfl,hAB⟩
    refine ⟨_,_,_,rfl,?_⟩
    have hBA := hB9.nw hNA
    refine stores_i hBA (by simp [sets_length]) ?_; intro wC hBC hFC wC_sz; try simp only [drew_heap',dr_heap] at wC_sz hFC
    simp only [sets,ZH,ZI] at hBC
    have hlt9 := hB9.lt; have hle9 := hN9.le; have hleA := hNA.le
    have hNC : Nw x7.heap wC.heap := (hN9.tr hNA).st hFC (by omega)
    have hOC := hxO.nw hNC
    refine ⟨q3,i,d3,by rw [hOC.cell]; rfl,r.cls,qB,r.fields.n,r.fields.n,hBC.holds,?_⟩
    refine newB_i ?_; intro b4 wD b4_eq hBD hND wD_sz; try simp only [drew_heap',dr_heap] at b4_eq hND
    have hND7 := hNC.tr hND
    have hs1 : Sl wD.heap (fun y => y = b4) eObj (some ⟨b4,0,none⟩) 1 1 [⟨r.cls,⟨qB,r.fields.n,r.fields.n⟩⟩] := (Sl.of_blk (l := [(⟨r.cls,⟨qB,r.fields.n,r.fields.n⟩⟩ : CObj)]) (E := eObj) hBD rfl rfl (by simp)).mono fun _ _ h => h.symm
    obtain ⟨⟨lk,hl1,hl2⟩,hl3⟩ := hxM
    refine append_r ty_obj ((hl1.mono (ok' := fun z => TO z /\ z < x7.heap.size) fun z hz hT => ⟨hT,hz⟩).nw hND7) hs1 (by omega) ?_
    intro qE cE wE hE hFE
    have hOE := (hOC.nw hND).fr hFE (fun h => by have := hl3 _ h.1; omega)
    refine stores_i hOE (by simp [sets_length]) ?_; intro wF hOF hFF wF_sz; try simp only [drew_heap',dr_heap] at wF_sz hFF
    simp only [sets,ZH,ZI] at hOF
    have hBF := (((hxB.nw hNC).nw hND).fr hFE (fun h => by have := hl3 _ h.1; omega)).fr hFF hbb2
    have hbind : IsObj wD.heap (fun z => x7.heap.size <= z) ⟨r.cls,⟨qB,r.fields.n,r.fields.n⟩⟩ x := ⟨hrx.cls,(hAB.fr hFC (fun z _ hz e => by have : w9.heap.size <= z := hz; omega) (fun z _ hz => hz)).fr hND (fun _ _ _ h => h) (fun z _ hz => by have : w9.heap.size <= z := hz; omega)⟩
    rw [wrap_id (by omega) (by omega)]
    refine ⟨⟨i + 1,qE,i + 1,cE,Old (fun z => TO z /\ z < x7.heap.size) wD.heap,rfl,by omega,rfl,hBF,hOF,?_,?_⟩,by (first | omega | (dsimp only; omega))⟩
    ·rw [take_succ_some hx]
     exact Made1.push hl1 hl2 hl3 (fun h hf hd hok => IsObj.fr h hf hd hok) hxle (by omega) hND7 hE hFE hFF hbind
    ·exact ((hxF.trans hND7.fr (fun _ _ h => h) (fun _ _ h => h)).trans (T := fun y => y = b2) hFE (fun _ _ h => h) (fun z hz h => by have := hl3 _ h.1; omega)).trans hFF (fun _ _ h => h) (fun _ _ h => h)
   obtain ⟨lo',hlo1,hlo2⟩ := hxM.done (fun h hok => IsObj.fr h (Fr.refl (fun _ => False) _) (fun _ _ _ h => h) hok)
   rw [List.take_of_length_le (by omega)] at hlo2
   refine ⟨pn,c.names.n,c.names.n,q,k,d,q2,j,d2,q3,i,d3,c.main,hxO.holds,?_⟩
   have hb1x := ((hB16.fr hF67 hb12).fr hvF hb12).fr hxF hb12
   refine stores_i hb1x (by simp [sets_length]) ?_; intro wZ hBZ hFZ wZ_sz; try simp only [drew_heap',dr_heap] at wZ_sz hFZ
   simp only [sets,ZH,ZI] at hBZ
   refine ⟨pn,c.names.n,c.names.n,q,k,d,q2,j,d2,q3,i,d3,c.main,hBZ.holds,?_⟩
   have hb1lt := hB16.lt
   have hF6Z : Fr (fun y => y = b2 \/ y = b1) w6.heap wZ.heap := ((hF67.trans' hvF).trans' hxF).trans hFZ (fun _ _ h => .inl h) (fun _ _ h => .inr h)
   have hF7Z : Fr (fun y => y = b2 \/ y = b1) w7.heap wZ.heap := (hvF.trans' hxF).trans hFZ (fun _ _ h => .inl h) (fun _ _ h => .inr h)
   have hFvZ : Fr (fun y => y = b2 \/ y = b1) v7.heap wZ.heap := hxF.trans hFZ (fun _ _ h => .inl h) (fun _ _ h => .inr h)
   have hFxZ : Fr (fun y => y = b2 \/ y = b1) x7.heap wZ.heap := hFZ.mono (fun _ _ h => .inr h)
   have hle6 := hNw6.le
   have dis : ∀ {n : Nat} (y : Nat),w6.heap.size <= n -> n <= y -> ¬ (y = b2 \/ y = b1) := fun y h1 h2 e => by rcases e with e | e <;> omega
   refine ⟨⟨⟨pn,c.names.n,c.names.n⟩,⟨q,k,d⟩,⟨q2,j,d2⟩,⟨q3,i,d3⟩,c.main⟩,rfl,⟨?_,⟨lc',?_,?_⟩,⟨lm',?_,?_⟩,⟨lo',?_,?_⟩,hu.main⟩,hxN.tr' hFZ fun y h => by rw [h]; exact hb1w⟩
   ·exact hnm.fr hF6Z (fun y _ h e => by rcases e with e | e; exact h.2.1 e; exact h.2.2 e) (fun y _ h => h.1)
   ·exact hlc1.fr hF7Z (fun y _ h => dis y (Nat.le_refl _) h) (fun y _ h => Nat.le_trans hle6 h)
   ·exact hlc2.mono fun _ _ hr => hr.fr hF7Z (fun y _ h => dis y (Nat.le_refl _) h) (fun y _ h => Nat.le_trans hle6 h)
   ·exact hlm1.fr hFvZ (fun y _ h => dis y hle67 h) (fun y _ h => Nat.le_trans hle6 (Nat.le_trans hle67 h))
   ·exact hlm2.mono fun _ _ hr => hr.fr hFvZ (fun y _ h => dis y hle67 h) (fun y _ h => Nat.le_trans hle6 (Nat.le_trans hle67 h))
   ·exact hlo1.fr hFxZ (fun y _ h => dis y (Nat.le_trans hle67 hvle) h) (fun y _ h => Nat.le_trans hle6 (Nat.le_trans hle67 (Nat.le_trans hvle h)))
   ·exact hlo2.mono fun _ _ hr => hr.fr hFxZ (fun y _ h => dis y (Nat.le_trans hle67 hvle) h) (fun y _ h => Nat.le_trans hle6 (Nat.le_trans hle67 (Nat.le_trans hvle h)))
  ·refine newB_i ?_; intro b2 w5 b2_eq hB5 hN5 w5_sz; try simp only [drew_heap',dr_heap] at b2_eq hN5
   have hB35 := hB3.nw hN5
   refine ⟨⟨by rw [hB35.cell]; rfl,trivial⟩,?_⟩
   refine (slices_Clip_string_string_ok ((h3.mono (ok' := fun y => w2.heap.size <= y /\ y < w3.heap.size) fun y hy h => ⟨h,hy⟩).nw hN5)).mono ?_; rintro _ w5 ⟨pn,rfl,rfl,h4⟩
   refine ⟨pn,_,_,rfl,⟨by rw [hB35.cell]; rfl,trivial⟩,?_⟩
   refine stores_i hB5 (by simp [sets_length]) ?_; intro w6 hO6 hF6 w6_sz; try simp only [drew_heap',dr_heap] at w6_sz hF6
   simp only [sets,ZH,ZI] at hO6
   have hB6 := hB35.fr hF6 (by have := hB3.lt; omega)
   have hB16 := ((hB1.nw hN3).nw hN5).fr hF6 (by have := (hB1.nw hN3).lt; omega)
   have hNw6 : Nw w.heap w6.heap := ((hN2.tr hN3).tr hN5).st hF6 (by have := (hN2.tr hN3).le; omega)
   have hl2 := (hN2.tr hN3).le
   have hb2w : w.heap.size <= b2 := by omega
   have hb1w : w.heap.size <= b1 := by have := hN.le; omega
   have hb26 : b2 < w6.heap.size := hO6.lt
   have hb12 : b1 ≠ b2 := by have := (hB1.nw hN3).lt; omega
   have hbb2 : b ≠ b2 := by have := hB3.lt; omega
   have hnm : Sl w6.heap (fun y => w.heap.size <= y /\ y ≠ b2 /\ y ≠ b1) eStr pn c.names.n c.names.n u.names := by
    exact h4.fr hF6 (fun y _ h => by have := h.2; omega) (fun y _ h => by have := h.1; have := h.2; have := hN2.le; exact ⟨by omega,by omega,by omega⟩)
   refine ⟨trivial,?_⟩
   refine ⟨c.classes.p,c.classes.n,c.classes.c,by rw [hB6.cell]; rfl,?_⟩
   refine ⟨fun t w' => ∃ (k : Nat) (q : Option Addr) (m d : Nat) (T : Nat -> Prop),t = (k : Int) /\ k <= c.classes.n /\ k = m /\ Bk w'.heap b c.vs /\ Bk w'.heap b2 [.slice pn c.names.n c.names.n,.slice q m d,.slice none 0 0,.slice none 0 0,.int .i64 c.main] /\ Made1 eClass IsClass w'.heap w6.heap q m d (u.classes.take k) T /\ Fr (fun y => y = b2) w6.heap w'.heap,fun t _ => c.classes.n - t.toNat,⟨0,none,0,0,_,rfl,Nat.zero_le _,rfl,hB6,hO6,Made1.nil _ _,Fr.refl _ _⟩,?_⟩
   rintro t w7 ⟨k,q,m,d,TT,rfl,hk,rfl,hB7,hO7,hM7,hF67⟩
   have hN7 : Nw w.heap w7.heap := hNw6.tr' hF67 fun y h => by rw [h]; exact hb2w
   have hle67 := hF67.le
   refine br_of (fun h1 => ?_) (fun h1 => ?_) <;> simp only [ZJ,ZK,ZL,ZM,ZN,ZO,ZP,ZQ,ZR] at h1
   ·refine chk_of (by simp; omega) ?_
    obtain ⟨r,x,hr,hx,hrx⟩ := hcA.getL (i := k) (by omega)
    refine (hc.nw hN7).idx hr ?_; intro g o _ hh
    refine ⟨_,_,_,_,_,_,hh,?_⟩
    refine newB_i ?_; intro b3 w8 b3_eq hB8 hN8 w8_sz; try simp only [drew_heap',dr_heap] at b3_eq hN8
    refine stores_i hB8 (by simp [sets_length]) ?_; intro w9 hB9 hF9 w9_sz; try simp only [drew_heap',dr_heap] at w9_sz hF9
    simp only [sets,ZH,ZI] at hB9
    have hN9 : Nw w7.heap w9.heap := hN8.st hF9 (by omega)
    have hN09 := hN7.tr hN9
    refine ⟨r.binds.p,r.binds.n,r.binds.c,by rw [hB9.cell]; rfl,?_⟩
    have hbl := hrx.binds.len; have hbg := (hg.classes.all k x hx).bnd.len
    refine (slices_Clone_api_Bind_api_Bind_ok (hrx.binds.nw hN09) (by omega)).mono ?_; rintro _ wA ⟨qA,cA,rfl,hA,hNA⟩
    refine ⟨_,_,_,rfl,?_⟩
    refine (slices_Clip_api_Bind_api_Bind_ok hA).mono ?_; rintro _ wA ⟨qB,rfl,rfl,hAB⟩
    refine ⟨_,_,_,rfl,?_⟩
    have hBA := hB9.nw hNA
    refine stores_i hBA (by simp [sets_length]) ?_; intro wC hBC hFC wC_sz; try simp only [drew_heap',dr_heap] at wC_sz hFC
    simp only [sets,ZH,ZI] at hBC
    have hlt9 := hB9.lt; have hle9 := hN9.le; have hleA := hNA.le
    have hNC : Nw w7.heap wC.heap := (hN9.tr hNA).st hFC (by omega)
    have hOC := hO7.nw hNC
    refine ⟨q,k,d,by rw [hOC.cell]; rfl,r.name,r.super,r.fields,qB,r.binds.n,r.binds.n,hBC.holds,?_⟩
    refine newB_i ?_; intro b4 wD b4_eq hBD hND wD_sz; try simp only [drew_heap',dr_heap] at b4_eq hND
    have hND7 := hNC.tr hND
    have hs1 : Sl wD.heap (fun y => y = b4) eClass (some ⟨b4,0,none⟩) 1 1 [⟨r.name,r.super,r.fields,⟨qB,r.binds.n,r.binds.n⟩⟩] := (Sl.of_blk (l := [(⟨r.name,r.super,r.fields,⟨qB,r.binds.n,r.binds.n⟩⟩ : CClass)]) (E := eClass) hBD rfl rfl (by simp)).mono fun _ _ h => h.symm
    obtain ⟨⟨lk,hl1,hl2⟩,hl3⟩ := hM7
    refine append_r ty_class ((hl1.mono (ok' := fun z => TT z /\ z < w7.heap.size) fun z hz hT => ⟨hT,hz⟩).nw hND7) hs1 (by omega) ?_
    intro qE cE wE hE hFE
    have hOE := (hOC.nw hND).fr hFE (fun h => by have := hl3 _ h.1; omega)
    refine stores_i hOE (by simp [sets_length]) ?_; intro wF hOF hFF wF_sz; try simp only [drew_heap',dr_heap] at wF_sz hFF
    simp only [sets,ZH,ZI] at hOF
    have hBF := (((hB7.nw hNC).nw hND).fr hFE (fun h => by have := hl3 _ h.1; omega)).fr hFF hbb2
    have hbind : IsClass wD.heap (fun z => w7.heap.size <= z) ⟨r.name,r.super,r.fields,⟨qB,r.binds.n,r.binds.n⟩⟩ x := ⟨hrx.name,hrx.super,hrx.fields,(hAB.fr hFC (fun z _ hz e => by have : w9.heap.size <= z := hz; omega) (fun z _ hz => hz)).fr hND (fun _ _ _ h => h) (fun z _ hz => by have : w9.heap.size <= z := hz; omega)⟩
    rw [wrap_id (by omega) (by omega)]
    refine ⟨⟨k + 1,qE,k + 1,cE,Old (fun z => TT z /\ z < w7.heap.size) wD.heap,rfl,by omega,rfl,hBF,hOF,?_,?_⟩,by (first | omega | (dsimp only; omega))⟩
    ·rw [take_succ_some hx]
     exact Made1.push hl1 hl2 hl3 (fun h hf hd hok => IsClass.fr h hf hd hok) hle67 hb26 hND7 hE hFE hFF hbind
    ·exact ((hF67.trans hND7.fr (fun _ _ h => h) (fun _ _ h => h)).trans (T := fun y => y = b2) hFE (fun _ _ h => h) (fun z hz h => by have := hl3 _ h.1; omega)).trans hFF (fun _ _ h => h) (fun _ _ h => h)
   obtain ⟨lc',hlc1,hlc2⟩ := hM7.done (fun h hok => IsClass.fr h (Fr.refl (fun _ => False) _) (fun _ _ _ h => h) hok)
   rw [List.take_of_length_le (by omega)] at hlc2
   refine ⟨c.methods.p,c.methods.n,c.methods.c,by rw [hB7.cell]; rfl,?_⟩
   refine ⟨fun t w' => ∃ (j : Nat) (q2 : Option Addr) (m2 d2 : Nat) (T : Nat -> Prop),t = (j : Int) /\ j <= c.methods.n /\ j = m2 /\ Bk w'.heap b c.vs /\ Bk w'.heap b2 [.slice pn c.names.n c.names.n,.slice q k d,.slice q2 m2 d2,.slice none 0 0,.int .i64 c.main] /\ Made1 eMethod IsMethod w'.heap w7.heap q2 m2 d2 (u.methods.take j) T /\ Fr (fun y => y = b2) w7.heap w'.heap,fun t _ => c.methods.n - t.toNat,⟨0,none,0,0,_,rfl,Nat.zero_le _,rfl,hB7,hO7,Made1.nil _ _,Fr.refl _ _⟩,?_⟩
   rintro t v7 ⟨j,q2,m2,d2,TM,rfl,hj,rfl,hvB,hvO,hvM,hvF⟩
   have hvN : Nw w.heap v7.heap := hN7.tr' hvF fun y h => by rw [h]; exact hb2w
   have hvle := hvF.le
   refine br_of (fun h2 => ?_) (fun h2 => ?_) <;> simp only [ZJ,ZK,ZL,ZM,ZN,ZO,ZP,ZQ,ZR] at h2
   ·refine chk_of (by simp; omega) ?_
    obtain ⟨r,x,hr,hx,hrx⟩ := hmA.getL (i := j) (by omega)
    refine (hm.nw hvN).idx hr ?_; intro g o _ hh
    refine ⟨_,_,_,_,_,_,_,_,hh,?_⟩
    refine newB_i ?_; intro b3 w8 b3_eq hB8 hN8 w8_sz; try simp only [drew_heap',dr_heap] at b3_eq hN8
    refine stores_i hB8 (by simp [sets_length]) ?_; intro w9 hB9 hF9 w9_sz; try simp only [drew_heap',dr_heap] at w9_sz hF9
    simp only [sets,ZH,ZI] at hB9
    have hN9 : Nw v7.heap w9.heap := hN8.st hF9 (by omega)
    have hN09 := hvN.tr hN9
    refine ⟨r.lits.p,r.lits.n,r.lits.c,by rw [World.cell?_drew,hB9.cell]; rfl,r.code.p,r.code.n,r.code.c,by rw [World.cell?_drew,hB9.cell]; rfl,?_⟩
    have hsh := (hg.methods x (List.mem_of_getElem? hx)).short
    simp only [cShort,Bool.and_eq_true,ZJ] at hsh
    have hbl := hrx.lits.len; have hbc := hrx.code.len
    refine (slices_Clone_api_Val_api_Val_ok (w := w9.drew) (hrx.lits.nw hN09) (by omega)).mono ?_; rintro _ wA ⟨qA,cA,rfl,hA,hNA⟩
    replace hNA : Nw w9.heap wA.heap := hNA
    replace hA : Sl wA.heap (Fresh w9.heap) eVal qA r.lits.n cA x.lits := hA
    refine ⟨_,_,_,rfl,⟨by rw [(hB9.nw hNA).cell]; rfl,trivial⟩,?_⟩
    refine (slices_Clip_api_Val_api_Val_ok hA).mono ?_; rintro _ wA ⟨qB,rfl,rfl,hAB⟩
    refine ⟨_,_,_,rfl,⟨by rw [(hB9.nw hNA).cell]; rfl,trivial⟩,?_⟩
    refine (slices_Clone_byte_byte_ok ((hrx.code.nw hN09).nw hNA) (by omega)).mono ?_; rintro _ wG ⟨qG,cG,rfl,hG,hNG⟩
    refine ⟨_,_,_,rfl,trivial,?_⟩
    refine (slices_Clip_byte_byte_ok hG).mono ?_; rintro _ wG ⟨qH,rfl,rfl,hGH⟩
    refine ⟨_,_,_,rfl,trivial,?_⟩
    have hBA := (hB9.nw hNA).nw hNG
    refine stores_i hBA (by simp [sets_length]) ?_; intro wI hBI hFI wI_sz; try simp only [drew_heap',dr_heap] at wI_sz hFI
    refine ⟨trivial,?_⟩
    refine stores_i hBI (by simp [sets_length]) ?_; intro wC hBC hFC wC_sz; try simp only [drew_heap',dr_heap] at wC_sz hFC
    simp only [sets,ZH,ZI] at hBC
    have hlt9 := hB9.lt; have hle9 := hN9.le; have hleA := hNA.le; have hleG := hNG.le; have hleI := hFI.le; have hleC := hFC.le
    have hNC : Nw v7.heap wC.heap := (((hN9.tr hNA).tr hNG).st hFI (by omega)).st hFC (by omega)
    have hOC := hvO.nw hNC
    refine ⟨trivial,q2,j,d2,by rw [hOC.cell]; rfl,r.args,r.temps,qB,r.lits.n,r.lits.n,qH,r.code.n,r.code.n,hBC.holds,?_⟩
    refine newB_i ?_; intro b4 wD b4_eq hBD hND wD_sz; try simp only [drew_heap',dr_heap] at b4_eq hND
    have hND7 := hNC.tr hND
    have hs1 : Sl wD.heap (fun y => y = b4) eMethod (some ⟨b4,0,none⟩) 1 1 [⟨r.args,r.temps,⟨qB,r.lits.n,r.lits.n⟩,⟨qH,r.code.n,r.code.n⟩⟩] := (Sl.of_blk (l := [(⟨r.args,r.temps,⟨qB,r.lits.n,r.lits.n⟩,⟨qH,r.code.n,r.code.n⟩⟩ : CMethod)]) (E := eMethod) hBD rfl rfl (by simp)).mono fun _ _ h => h.symm
    obtain ⟨⟨lk,hl1,hl2⟩,hl3⟩ := hvM
    refine append_r ty_method ((hl1.mono (ok' := fun z => TM z /\ z < v7.heap.size) fun z hz hT => ⟨hT,hz⟩).nw hND7) hs1 (by omega) ?_
    intro qE cE wE hE hFE
    have hOE := (hOC.nw hND).fr hFE (fun h => by have := hl3 _ h.1; omega)
    refine stores_i hOE (by simp [sets_length]) ?_; intro wF hOF hFF wF_sz; try simp only [drew_heap',dr_heap] at wF_sz hFF
    simp only [sets,ZH,ZI] at hOF
    have hBF := (((hvB.nw hNC).nw hND).fr hFE (fun h => by have := hl3 _ h.1; omega)).fr hFF hbb2
    have hFIC : Fr (fun z => z = b3) wG.heap wC.heap := Fr.trans' hFI hFC
    have hbind : IsMethod wD.heap (fun z => v7.heap.size <= z) ⟨r.args,r.temps,⟨qB,r.lits.n,r.lits.n⟩,⟨qH,r.code.n,r.code.n⟩⟩ x :=
     ⟨hrx.args,hrx.temps,((hAB.nw hNG).fr hFIC (fun z _ hz e => by have : w9.heap.size <= z := hz; omega) (fun z _ hz => hz)).fr hND (fun _ _ _ h => h) (fun z _ hz => by have : w9.heap.size <= z := hz; omega),
      (hGH.fr hFIC (fun z _ hz e => by have : wA.heap.size <= z := hz; omega) (fun z _ hz => hz)).fr hND (fun _ _ _ h => h) (fun z _ hz => by have : wA.heap.size <= z := hz; omega),hrx.bytes⟩
    rw [wrap_id (by omega) (by omega)]
    refine ⟨⟨j + 1,qE,j + 1,cE,Old (fun z => TM z /\ z < v7.heap.size) wD.heap,rfl,by omega,rfl,hBF,hOF,?_,?_⟩,by (first | omega | (dsimp only; omega))⟩
    ·rw [take_succ_some hx]
     exact Made1.push hl1 hl2 hl3 (fun h hf hd hok => IsMethod.fr h hf hd hok) hvle (by omega) hND7 hE hFE hFF hbind
    ·exact ((hvF.trans hND7.fr (fun _ _ h => h) (fun _ _ h => h)).trans (T := fun y => y = b2) hFE (fun _ _ h => h) (fun z hz h => by have := hl3 _ h.1; omega)).trans hFF (fun _ _ h => h) (fun _ _ h => h)
   obtain ⟨lm',hlm1,hlm2⟩ := hvM.done (fun h hok => IsMethod.fr h (Fr.refl (fun _ => False) _) (fun _ _ _ h => h) hok)
   rw [List.take_of_length_le (by omega)] at hlm2
   refine ⟨c.objects.p,c.objects.n,c.objects.c,by rw [hvB.cell]; rfl,?_⟩
   refine ⟨fun t w' => ∃ (i : Nat) (q3 : Option Addr) (m3 d3 : Nat) (T : Nat -> Prop),t = (i : Int) /\ i <= c.objects.n /\ i = m3 /\ Bk w'.heap b c.vs /\ Bk w'.heap b2 [.slice pn c.names.n c.names.n,.slice q k d,.slice q2 j d2,.slice q3 m3 d3,.int .i64 c.main] /\ Made1 eObj IsObj w'.heap v7.heap q3 m3 d3 (u.objects.take i) T /\ Fr (fun y => y = b2) v7.heap w'.heap,fun t _ => c.objects.n - t.toNat,⟨0,none,0,0,_,rfl,Nat.zero_le _,rfl,hvB,hvO,Made1.nil _ _,Fr.refl _ _⟩,?_⟩
   rintro t x7 ⟨i,q3,m3,d3,TO,rfl,hi,rfl,hxB,hxO,hxM,hxF⟩
   have hxN : Nw w.heap x7.heap := hvN.tr' hxF fun y h => by rw [h]; exact hb2w
   have hxle := hxF.le
   refine br_of (fun h3 => ?_) (fun h3 => ?_) <;> simp only [ZJ,ZK,ZL,ZM,ZN,ZO,ZP,ZQ,ZR] at h3
   ·refine chk_of (by simp; omega) ?_
    obtain ⟨r,x,hr,hx,hrx⟩ := hoA.getL (i := i) (by omega)
    refine (ho.nw hxN).idx hr ?_; intro g o _ hh
    refine ⟨_,_,_,_,hh,?_⟩
    refine newB_i ?_; intro b3 w8 b3_eq hB8 hN8 w8_sz; try simp only [drew_heap',dr_heap] at b3_eq hN8
    refine stores_i hB8 (by simp [sets_length]) ?_; intro w9 hB9 hF9 w9_sz; try simp only [drew_heap',dr_heap] at w9_sz hF9
    simp only [sets,ZH,ZI] at hB9
    have hN9 : Nw x7.heap w9.heap := hN8.st hF9 (by omega)
    have hN09 := hxN.tr hN9
    refine ⟨r.fields.p,r.fields.n,r.fields.c,by rw [hB9.cell]; rfl,?_⟩
    have hbl := hrx.fields.len; have hbg := (hg.objects x (List.mem_of_getElem? hx)).len
    refine (slices_Clone_api_Val_api_Val_ok (hrx.fields.nw hN09) (by omega)).mono ?_; rintro _ wA ⟨qA,cA,rfl,hA,hNA⟩
    refine ⟨_,_,_,rfl,?_⟩
    refine (slices_Clip_api_Val_api_Val_ok hA).mono ?_; rintro _ wA ⟨qB,rfl,rfl,hAB⟩
    refine ⟨_,_,_,rfl,?_⟩
    have hBA := hB9.nw hNA
    refine stores_i hBA (by simp [sets_length]) ?_; intro wC hBC hFC wC_sz; try simp only [drew_heap',dr_heap] at wC_sz hFC
    simp only [sets,ZH,ZI] at hBC
    have hlt9 := hB9.lt; have hle9 := hN9.le; have hleA := hNA.le
    have hNC : Nw x7.heap wC.heap := (hN9.tr hNA).st hFC (by omega)
    have hOC := hxO.nw hNC
    refine ⟨q3,i,d3,by rw [hOC.cell]; rfl,r.cls,qB,r.fields.n,r.fields.n,hBC.holds,?_⟩
    refine newB_i ?_; intro b4 wD b4_eq hBD hND wD_sz; try simp only [drew_heap',dr_heap] at b4_eq hND
    have hND7 := hNC.tr hND
    have hs1 : Sl wD.heap (fun y => y = b4) eObj (some ⟨b4,0,none⟩) 1 1 [⟨r.cls,⟨qB,r.fields.n,r.fields.n⟩⟩] := (Sl.of_blk (l := [(⟨r.cls,⟨qB,r.fields.n,r.fields.n⟩⟩ : CObj)]) (E := eObj) hBD rfl rfl (by simp)).mono fun _ _ h => h.symm
    obtain ⟨⟨lk,hl1,hl2⟩,hl3⟩ := hxM
    refine append_r ty_obj ((hl1.mono (ok' := fun z => TO z /\ z < x7.heap.size) fun z hz hT => ⟨hT,hz⟩).nw hND7) hs1 (by omega) ?_
    intro qE cE wE hE hFE
    have hOE := (hOC.nw hND).fr hFE (fun h => by have := hl3 _ h.1; omega)
    refine stores_i hOE (by simp [sets_length]) ?_; intro wF hOF hFF wF_sz; try simp only [drew_heap',dr_heap] at wF_sz hFF
    simp only [sets,ZH,ZI] at hOF
    have hBF := (((hxB.nw hNC).nw hND).fr hFE (fun h => by have := hl3 _ h.1; omega)).fr hFF hbb2
    have hbind : IsObj wD.heap (fun z => x7.heap.size <= z) ⟨r.cls,⟨qB,r.fields.n,r.fields.n⟩⟩ x := ⟨hrx.cls,(hAB.fr hFC (fun z _ hz e => by have : w9.heap.size <= z := hz; omega) (fun z _ hz => hz)).fr hND (fun _ _ _ h => h) (fun z _ hz => by have : w9.heap.size <= z := hz; omega)⟩
    rw [wrap_id (by omega) (by omega)]
    refine ⟨⟨i + 1,qE,i + 1,cE,Old (fun z => TO z /\ z < x7.heap.size) wD.heap,rfl,by omega,rfl,hBF,hOF,?_,?_⟩,by (first | omega | (dsimp only; omega))⟩
    ·rw [take_succ_some hx]
     exact Made1.push hl1 hl2 hl3 (fun h hf hd hok => IsObj.fr h hf hd hok) hxle (by omega) hND7 hE hFE hFF hbind
    ·exact ((hxF.trans hND7.fr (fun _ _ h => h) (fun _ _ h => h)).trans (T := fun y => y = b2) hFE (fun _ _ h => h) (fun z hz h => by have := hl3 _ h.1; omega)).trans hFF (fun _ _ h => h) (fun _ _ h => h)
   obtain ⟨lo',hlo1,hlo2⟩ := hxM.done (fun h hok => IsObj.fr h (Fr.refl (fun _ => False) _) (fun _ _ _ h => h) hok)
   rw [List.take_of_length_le (by omega)] at hlo2
   refine ⟨pn,c.names.n,c.names.n,q,k,d,q2,j,d2,q3,i,d3,c.main,hxO.holds,?_⟩
   have hb1x := ((hB16.fr hF67 hb12).fr hvF hb12).fr hxF hb12
   refine stores_i hb1x (by simp [sets_length]) ?_; intro wZ hBZ hFZ wZ_sz; try simp only [drew_heap',dr_heap] at wZ_sz hFZ
   simp only [sets,ZH,ZI] at hBZ
   refine ⟨pn,c.names.n,c.names.n,q,k,d,q2,j,d2,q3,i,d3,c.main,hBZ.holds,?_⟩
   have hb1lt := hB16.lt
   have hF6Z : Fr (fun y => y = b2 \/ y = b1) w6.heap wZ.heap := ((hF67.trans' hvF).trans' hxF).trans hFZ (fun _ _ h => .inl h) (fun _ _ h => .inr h)
   have hF7Z : Fr (fun y => y = b2 \/ y = b1) w7.heap wZ.heap := (hvF.trans' hxF).trans hFZ (fun _ _ h => .inl h) (fun _ _ h => .inr h)
   have hFvZ : Fr (fun y => y = b2 \/ y = b1) v7.heap wZ.heap := hxF.trans hFZ (fun _ _ h => .inl h) (fun _ _ h => .inr h)
   have hFxZ : Fr (fun y => y = b2 \/ y = b1) x7.heap wZ.heap := hFZ.mono (fun _ _ h => .inr h)
   have hle6 := hNw6.le
   have dis : ∀ {n : Nat} (y : Nat),w6.heap.size <= n -> n <= y -> ¬ (y = b2 \/ y = b1) := fun y h1 h2 e => by rcases e with e | e <;> omega
   refine ⟨⟨⟨pn,c.names.n,c.names.n⟩,⟨q,k,d⟩,⟨q2,j,d2⟩,⟨q3,i,d3⟩,c.main⟩,rfl,⟨?_,⟨lc',?_,?_⟩,⟨lm',?_,?_⟩,⟨lo',?_,?_⟩,hu.main⟩,hxN.tr' hFZ fun y h => by rw [h]; exact hb1w⟩
   ·exact hnm.fr hF6Z (fun y _ h e => by rcases e with e | e; exact h.2.1 e; exact h.2.2 e) (fun y _ h => h.1)
   ·exact hlc1.fr hF7Z (fun y _ h => dis y (Nat.le_refl _) h) (fun y _ h => Nat.le_trans hle6 h)
   ·exact hlc2.mono fun _ _ hr => hr.fr hF7Z (fun y _ h => dis y (Nat.le_refl _) h) (fun y _ h => Nat.le_trans hle6 h)
   ·exact hlm1.fr hFvZ (fun y _ h => dis y hle67 h) (fun y _ h => Nat.le_trans hle6 (Nat.le_trans hle67 h))
   ·exact hlm2.mono fun _ _ hr => hr.fr hFvZ (fun y _ h => dis y hle67 h) (fun y _ h => Nat.le_trans hle6 (Nat.le_trans hle67 h))
   ·exact hlo1.fr hFxZ (fun y _ h => dis y (Nat.le_trans hle67 hvle) h) (fun y _ h => Nat.le_trans hle6 (Nat.le_trans hle67 (Nat.le_trans hvle h)))
   ·exact hlo2.mono fun _ _ hr => hr.fr hFxZ (fun y _ h => dis y (Nat.le_trans hle67 hvle) h) (fun y _ h => Nat.le_trans hle6 (Nat.le_trans hle67 (Nat.le_trans hvle h)))
 ·refine newB_i ?_; intro b2 w5 b2_eq hB5 hN5 w5_sz; try simp only [drew_heap',dr_heap] at b2_eq hN5
  have hB35 := hB.nw hN5
  refine ⟨⟨by rw [hB35.cell]; rfl,by rw [hB35.cell]; rfl,trivial⟩,?_⟩
  have hN05 : Nw w.heap w5.heap := hN2.tr hN5
  refine (slices_Clone_string_string_ok (hu.names.nw hN05) (by omega)).mono ?_; rintro _ w3 ⟨q3,c3,rfl,h3,hN3⟩
  have hB3 := hB35.nw hN3
  refine ⟨q3,_,c3,rfl,⟨by rw [hB3.cell]; rfl,trivial⟩,?_⟩
  refine (slices_Clip_string_string_ok h3).mono ?_; rintro _ w3 ⟨pn,rfl,rfl,h4⟩
  refine ⟨pn,_,_,rfl,⟨by rw [hB3.cell]; rfl,trivial⟩,?_⟩
  have hO3 := hB5.nw hN3
  refine stores_i hO3 (by simp [sets_length]) ?_; intro w6 hO6 hF6 w6_sz; try simp only [drew_heap',dr_heap] at w6_sz hF6
  simp only [sets,ZH,ZI] at hO6
  have hl5 := hN2.le
  have hbl := hB.lt; have hbl1 := hB1.lt
  have hB6 := hB3.fr hF6 (by omega)
  have hB16 := ((hB1.nw hN5).nw hN3).fr hF6 (by omega)
  have hNw6 : Nw w.heap w6.heap := (hN05.tr hN3).st hF6 (by omega)
  have hb2w : w.heap.size <= b2 := by omega
  have hb1w : w.heap.size <= b1 := by have := hN.le; omega
  have hb26 : b2 < w6.heap.size := hO6.lt
  have hb12 : b1 ≠ b2 := by omega
  have hbb2 : b ≠ b2 := by omega
  have hnm : Sl w6.heap (fun y => w.heap.size <= y /\ y ≠ b2 /\ y ≠ b1) eStr pn c.names.n c.names.n u.names := by
   exact h4.fr hF6 (fun y _ h e => by have : w5.heap.size <= y := h; omega) (fun y _ h => by have : w5.heap.size <= y := h; exact ⟨by omega,by omega,by omega⟩)
  refine ⟨trivial,?_⟩
  refine ⟨c.classes.p,c.classes.n,c.classes.c,by rw [hB6.cell]; rfl,?_⟩
  refine ⟨fun t w' => ∃ (k : Nat) (q : Option Addr) (m d : Nat) (T : Nat -> Prop),t = (k : Int) /\ k <= c.classes.n /\ k = m /\ Bk w'.heap b c.vs /\ Bk w'.heap b2 [.slice pn c.names.n c.names.n,.slice q m d,.slice none 0 0,.slice none 0 0,.int .i64 c.main] /\ Made1 eClass IsClass w'.heap w6.heap q m d (u.classes.take k) T /\ Fr (fun y => y = b2) w6.heap w'.heap,fun t _ => c.classes.n - t.toNat,⟨0,none,0,0,_,rfl,Nat.zero_le _,rfl,hB6,hO6,Made1.nil _ _,Fr.refl _ _⟩,?_⟩
  rintro t w7 ⟨k,q,m,d,TT,rfl,hk,rfl,hB7,hO7,hM7,hF67⟩
  have hN7 : Nw w.heap w7.heap := hNw6.tr' hF67 fun y h => by rw [h]; exact hb2w
  have hle67 := hF67.le
  refine br_of (fun h1 => ?_) (fun h1 => ?_) <;> simp only [ZJ,ZK,ZL,ZM,ZN,ZO,ZP,ZQ,ZR] at h1
  ·refine chk_of (by simp; omega) ?_
   obtain ⟨r,x,hr,hx,hrx⟩ := hcA.getL (i := k) (by omega)
   refine (hc.nw hN7).idx hr ?_; intro g o _ hh
   refine ⟨_,_,_,_,_,_,hh,?_⟩
   refine newB_i ?_; intro b3 w8 b3_eq hB8 hN8 w8_sz; try simp only [drew_heap',dr_heap] at b3_eq hN8
   refine stores_i hB8 (by simp [sets_length]) ?_; intro w9 hB9 hF9 w9_sz; try simp only [drew_heap',dr_heap] at w9_sz hF9
   simp only [sets,ZH,ZI] at hB9
   have hN9 : Nw w7.heap w9.heap := hN8.st hF9 (by omega)
   have hN09 := hN7.tr hN9
   refine ⟨r.binds.p,r.binds.n,r.binds.c,by rw [hB9.cell]; rfl,?_⟩
   have hbl := hrx.binds.len; have hbg := (hg.classes.all k x hx).bnd.len
   refine (slices_Clone_api_Bind_api_Bind_ok (hrx.binds.nw hN09) (by omega)).mono ?_; rintro _ wA ⟨qA,cA,rfl,hA,hNA⟩
   refine ⟨_,_,_,rfl,?_⟩
   refine (slices_Clip_api_Bind_api_Bind_ok hA).mono ?_; rintro _ wA ⟨qB,rfl,rfl,hAB⟩
   refine ⟨_,_,_,rfl,?_⟩
   have hBA := hB9.nw hNA
   refine stores_i hBA (by simp [sets_length]) ?_; intro wC hBC hFC wC_sz; try simp only [drew_heap',dr_heap] at wC_sz hFC
   simp only [sets,ZH,ZI] at hBC
   have hlt9 := hB9.lt; have hle9 := hN9.le; have hleA := hNA.le
   have hNC : Nw w7.heap wC.heap := (hN9.tr hNA).st hFC (by omega)
   have hOC := hO7.nw hNC
   refine ⟨q,k,d,by rw [hOC.cell]; rfl,r.name,r.super,r.fields,qB,r.binds.n,r.binds.n,hBC.holds,?_⟩
   refine newB_i ?_; intro b4 wD b4_eq hBD hND wD_sz; try simp only [drew_heap',dr_heap] at b4_eq hND
   have hND7 := hNC.tr hND
   have hs1 : Sl wD.heap (fun y => y = b4) eClass (some ⟨b4,0,none⟩) 1 1 [⟨r.name,r.super,r.fields,⟨qB,r.binds.n,r.binds.n⟩⟩] := (Sl.of_blk (l := [(⟨r.name,r.super,r.fields,⟨qB,r.binds.n,r.binds.n⟩⟩ : CClass)]) (E := eClass) hBD rfl rfl (by simp)).mono fun _ _ h => h.symm
   obtain ⟨⟨lk,hl1,hl2⟩,hl3⟩ := hM7
   refine append_r ty_class ((hl1.mono (ok' := fun z => TT z /\ z < w7.heap.size) fun z hz hT => ⟨hT,hz⟩).nw hND7) hs1 (by omega) ?_
   intro qE cE wE hE hFE
   have hOE := (hOC.nw hND).fr hFE (fun h => by have := hl3 _ h.1; omega)
   refine stores_i hOE (by simp [sets_length]) ?_; intro wF hOF hFF wF_sz; try simp only [drew_heap',dr_heap] at wF_sz hFF
   simp only [sets,ZH,ZI] at hOF
   have hBF := (((hB7.nw hNC).nw hND).fr hFE (fun h => by have := hl3 _ h.1; omega)).fr hFF hbb2
   have hbind : IsClass wD.heap (fun z => w7.heap.size <= z) ⟨r.name,r.super,r.fields,⟨qB,r.binds.n,r.binds.n⟩⟩ x := ⟨hrx.name,hrx.super,hrx.fields,(hAB.fr hFC (fun z _ hz e => by have : w9.heap.size <= z := hz; omega) (fun z _ hz => hz)).fr hND (fun _ _ _ h => h) (fun z _ hz => by have : w9.heap.size <= z := hz; omega)⟩
   rw [wrap_id (by omega) (by omega)]
   refine ⟨⟨k + 1,qE,k + 1,cE,Old (fun z => TT z /\ z < w7.heap.size) wD.heap,rfl,by omega,rfl,hBF,hOF,?_,?_⟩,by (first | omega | (dsimp only; omega))⟩
   ·rw [take_succ_some hx]
    exact Made1.push hl1 hl2 hl3 (fun h hf hd hok => IsClass.fr h hf hd hok) hle67 hb26 hND7 hE hFE hFF hbind
   ·exact ((hF67.trans hND7.fr (fun _ _ h => h) (fun _ _ h => h)).trans (T := fun y => y = b2) hFE (fun _ _ h => h) (fun z hz h => by have := hl3 _ h.1; omega)).trans hFF (fun _ _ h => h) (fun _ _ h => h)
  obtain ⟨lc',hlc1,hlc2⟩ := hM7.done (fun h hok => IsClass.fr h (Fr.refl (fun _ => False) _) (fun _ _ _ h => h) hok)
  rw [List.take_of_length_le (by omega)] at hlc2
  refine ⟨c.methods.p,c.methods.n,c.methods.c,by rw [hB7.cell]; rfl,?_⟩
  refine ⟨fun t w' => ∃ (j : Nat) (q2 : Option Addr) (m2 d2 : Nat) (T : Nat -> Prop),t = (j : Int) /\ j <= c.methods.n /\ j = m2 /\ Bk w'.heap b c.vs /\ Bk w'.heap b2 [.slice pn c.names.n c.names.n,.slice q k d,.slice q2 m2 d2,.slice none 0 0,.int .i64 c.main] /\ Made1 eMethod IsMethod w'.heap w7.heap q2 m2 d2 (u.methods.take j) T /\ Fr (fun y => y = b2) w7.heap w'.heap,fun t _ => c.methods.n - t.toNat,⟨0,none,0,0,_,rfl,Nat.zero_le _,rfl,hB7,hO7,Made1.nil _ _,Fr.refl _ _⟩,?_⟩
  rintro t v7 ⟨j,q2,m2,d2,TM,rfl,hj,rfl,hvB,hvO,hvM,hvF⟩
  have hvN : Nw w.heap v7.heap := hN7.tr' hvF fun y h => by rw [h]; exact hb2w
  have hvle := hvF.le
  refine br_of (fun h2 => ?_) (fun h2 => ?_) <;> simp only [ZJ,ZK,ZL,ZM,ZN,ZO,ZP,ZQ,ZR] at h2
  ·refine chk_of (by simp; omega) ?_
   obtain ⟨r,x,hr,hx,hrx⟩ := hmA.getL (i := j) (by omega)
   refine (hm.nw hvN).idx hr ?_; intro g o _ hh
   refine ⟨_,_,_,_,_,_,_,_,hh,?_⟩
   refine newB_i ?_; intro b3 w8 b3_eq hB8 hN8 w8_sz; try simp only [drew_heap',dr_heap] at b3_eq hN8
   refine stores_i hB8 (by simp [sets_length]) ?_; intro w9 hB9 hF9 w9_sz; try simp only [drew_heap',dr_heap] at w9_sz hF9
   simp only [sets,ZH,ZI] at hB9
   have hN9 : Nw v7.heap w9.heap := hN8.st hF9 (by omega)
   have hN09 := hvN.tr hN9
   refine ⟨r.lits.p,r.lits.n,r.lits.c,by rw [World.cell?_drew,hB9.cell]; rfl,r.code.p,r.code.n,r.code.c,by rw [World.cell?_drew,hB9.cell]; rfl,?_⟩
   have hsh := (hg.methods x (List.mem_of_getElem? hx)).short
   simp only [cShort,Bool.and_eq_true,ZJ] at hsh
   have hbl := hrx.lits.len; have hbc := hrx.code.len
   refine (slices_Clone_api_Val_api_Val_ok (w := w9.drew) (hrx.lits.nw hN09) (by omega)).mono ?_; rintro _ wA ⟨qA,cA,rfl,hA,hNA⟩
   replace hNA : Nw w9.heap wA.heap := hNA
   replace hA : Sl wA.heap (Fresh w9.heap) eVal qA r.lits.n cA x.lits := hA
   refine ⟨_,_,_,rfl,⟨by rw [(hB9.nw hNA).cell]; rfl,trivial⟩,?_⟩
   refine (slices_Clip_api_Val_api_Val_ok hA).mono ?_; rintro _ wA ⟨qB,rfl,rfl,hAB⟩
   refine ⟨_,_,_,rfl,⟨by rw [(hB9.nw hNA).cell]; rfl,trivial⟩,?_⟩
   refine (slices_Clone_byte_byte_ok ((hrx.code.nw hN09).nw hNA) (by omega)).mono ?_; rintro _ wG ⟨qG,cG,rfl,hG,hNG⟩
   refine ⟨_,_,_,rfl,trivial,?_⟩
   refine (slices_Clip_byte_byte_ok hG).mono ?_; rintro _ wG ⟨qH,rfl,rfl,hGH⟩
   refine ⟨_,_,_,rfl,trivial,?_⟩
   have hBA := (hB9.nw hNA).nw hNG
   refine stores_i hBA (by simp [sets_length]) ?_; intro wI hBI hFI wI_sz; try simp only [drew_heap',dr_heap] at wI_sz hFI
   refine ⟨trivial,?_⟩
   refine stores_i hBI (by simp [sets_length]) ?_; intro wC hBC hFC wC_sz; try simp only [drew_heap',dr_heap] at wC_sz hFC
   simp only [sets,ZH,ZI] at hBC
   have hlt9 := hB9.lt; have hle9 := hN9.le; have hleA := hNA.le; have hleG := hNG.le; have hleI := hFI.le; have hleC := hFC.le
   have hNC : Nw v7.heap wC.heap := (((hN9.tr hNA).tr hNG).st hFI (by omega)).st hFC (by omega)
   have hOC := hvO.nw hNC
   refine ⟨trivial,q2,j,d2,by rw [hOC.cell]; rfl,r.args,r.temps,qB,r.lits.n,r.lits.n,qH,r.code.n,r.code.n,hBC.holds,?_⟩
   refine newB_i ?_; intro b4 wD b4_eq hBD hND wD_sz; try simp only [drew_heap',dr_heap] at b4_eq hND
   have hND7 := hNC.tr hND
   have hs1 : Sl wD.heap (fun y => y = b4) eMethod (some ⟨b4,0,none⟩) 1 1 [⟨r.args,r.temps,⟨qB,r.lits.n,r.lits.n⟩,⟨qH,r.code.n,r.code.n⟩⟩] := (Sl.of_blk (l := [(⟨r.args,r.temps,⟨qB,r.lits.n,r.lits.n⟩,⟨qH,r.code.n,r.code.n⟩⟩ : CMethod)]) (E := eMethod) hBD rfl rfl (by simp)).mono fun _ _ h => h.symm
   obtain ⟨⟨lk,hl1,hl2⟩,hl3⟩ := hvM
   refine append_r ty_method ((hl1.mono (ok' := fun z => TM z /\ z < v7.heap.size) fun z hz hT => ⟨hT,hz⟩).nw hND7) hs1 (by omega) ?_
   intro qE cE wE hE hFE
   have hOE := (hOC.nw hND).fr hFE (fun h => by have := hl3 _ h.1; omega)
   refine stores_i hOE (by simp [sets_length]) ?_; intro wF hOF hFF wF_sz; try simp only [drew_heap',dr_heap] at wF_sz hFF
   simp only [sets,ZH,ZI] at hOF
   have hBF := (((hvB.nw hNC).nw hND).fr hFE (fun h => by have := hl3 _ h.1; omega)).fr hFF hbb2
   have hFIC : Fr (fun z => z = b3) wG.heap wC.heap := Fr.trans' hFI hFC
   have hbind : IsMethod wD.heap (fun z => v7.heap.size <= z) ⟨r.args,r.temps,⟨qB,r.lits.n,r.lits.n⟩,⟨qH,r.code.n,r.code.n⟩⟩ x :=
    ⟨hrx.args,hrx.temps,((hAB.nw hNG).fr hFIC (fun z _ hz e => by have : w9.heap.size <= z := hz; omega) (fun z _ hz => hz)).fr hND (fun _ _ _ h => h) (fun z _ hz => by have : w9.heap.size <= z := hz; omega),
     (hGH.fr hFIC (fun z _ hz e => by have : wA.heap.size <= z := hz; omega) (fun z _ hz => hz)).fr hND (fun _ _ _ h => h) (fun z _ hz => by have : wA.heap.size <= z := hz; omega),hrx.bytes⟩
   rw [wrap_id (by omega) (by omega)]
   refine ⟨⟨j + 1,qE,j + 1,cE,Old (fun z => TM z /\ z < v7.heap.size) wD.heap,rfl,by omega,rfl,hBF,hOF,?_,?_⟩,by (first | omega | (dsimp only; omega))⟩
   ·rw [take_succ_some hx]
    exact Made1.push hl1 hl2 hl3 (fun h hf hd hok => IsMethod.fr h hf hd hok) hvle (by omega) hND7 hE hFE hFF hbind
   ·exact ((hvF.trans hND7.fr (fun _ _ h => h) (fun _ _ h => h)).trans (T := fun y => y = b2) hFE (fun _ _ h => h) (fun z hz h => by have := hl3 _ h.1; omega)).trans hFF (fun _ _ h => h) (fun _ _ h => h)
  obtain ⟨lm',hlm1,hlm2⟩ := hvM.done (fun h hok => IsMethod.fr h (Fr.refl (fun _ => False) _) (fun _ _ _ h => h) hok)
  rw [List.take_of_length_le (by omega)] at hlm2
  refine ⟨c.objects.p,c.objects.n,c.objects.c,by rw [hvB.cell]; rfl,?_⟩
  refine ⟨fun t w' => ∃ (i : Nat) (q3 : Option Addr) (m3 d3 : Nat) (T : Nat -> Prop),t = (i : Int) /\ i <= c.objects.n /\ i = m3 /\ Bk w'.heap b c.vs /\ Bk w'.heap b2 [.slice pn c.names.n c.names.n,.slice q k d,.slice q2 j d2,.slice q3 m3 d3,.int .i64 c.main] /\ Made1 eObj IsObj w'.heap v7.heap q3 m3 d3 (u.objects.take i) T /\ Fr (fun y => y = b2) v7.heap w'.heap,fun t _ => c.objects.n - t.toNat,⟨0,none,0,0,_,rfl,Nat.zero_le _,rfl,hvB,hvO,Made1.nil _ _,Fr.refl _ _⟩,?_⟩
  rintro t x7 ⟨i,q3,m3,d3,TO,rfl,hi,rfl,hxB,hxO,hxM,hxF⟩
  have hxN : Nw w.heap x7.heap := hvN.tr' hxF fun y h => by rw [h]; exact hb2w
  have hxle := hxF.le
  refine br_of (fun h3 => ?_) (fun h3 => ?_) <;> simp only [ZJ,ZK,ZL,ZM,ZN,ZO,ZP,ZQ,ZR] at h3
  ·refine chk_of (by simp; omega) ?_
   obtain ⟨r,x,hr,hx,hrx⟩ := hoA.getL (i := i) (by omega)
   refine (ho.nw hxN).idx hr ?_; intro g o _ hh
   refine ⟨_,_,_,_,hh,?_⟩
   refine newB_i ?_; intro b3 w8 b3_eq hB8 hN8 w8_sz; try simp only [drew_heap',dr_heap] at b3_eq hN8
   refine stores_i hB8 (by simp [sets_length]) ?_; intro w9 hB9 hF9 w9_sz; try simp only [drew_heap',dr_heap] at w9_sz hF9
   simp only [sets,ZH,ZI] at hB9
   have hN9 : Nw x7.heap w9.heap := hN8.st hF9 (by omega)
   have hN09 := hxN.tr hN9
   refine ⟨r.fields.p,r.fields.n,r.fields.c,by rw [hB9.cell]; rfl,?_⟩
   have hbl := hrx.fields.len; have hbg := (hg.objects x (List.mem_of_getElem? hx)).len
   refine (slices_Clone_api_Val_api_Val_ok (hrx.fields.nw hN09) (by omega)).mono ?_; rintro _ wA ⟨qA,cA,rfl,hA,hNA⟩
   refine ⟨_,_,_,rfl,?_⟩
   refine (slices_Clip_api_Val_api_Val_ok hA).mono ?_; rintro _ wA ⟨qB,rfl,rfl,hAB⟩
   refine ⟨_,_,_,rfl,?_⟩
   have hBA := hB9.nw hNA
   refine stores_i hBA (by simp [sets_length]) ?_; intro wC hBC hFC wC_sz; try simp only [drew_heap',dr_heap] at wC_sz hFC
   simp only [sets,ZH,ZI] at hBC
   have hlt9 := hB9.lt; have hle9 := hN9.le; have hleA := hNA.le
   have hNC : Nw x7.heap wC.heap := (hN9.tr hNA).st hFC (by omega)
   have hOC := hxO.nw hNC
   refine ⟨q3,i,d3,by rw [hOC.cell]; rfl,r.cls,qB,r.fields.n,r.fields.n,hBC.holds,?_⟩
   refine newB_i ?_; intro b4 wD b4_eq hBD hND wD_sz; try simp only [drew_heap',dr_heap] at b4_eq hND
   have hND7 := hNC.tr hND
   have hs1 : Sl wD.heap (fun y => y = b4) eObj (some ⟨b4,0,none⟩) 1 1 [⟨r.cls,⟨qB,r.fields.n,r.fields.n⟩⟩] := (Sl.of_blk (l := [(⟨r.cls,⟨qB,r.fields.n,r.fields.n⟩⟩ : CObj)]) (E := eObj) hBD rfl rfl (by simp)).mono fun _ _ h => h.symm
   obtain ⟨⟨lk,hl1,hl2⟩,hl3⟩ := hxM
   refine append_r ty_obj ((hl1.mono (ok' := fun z => TO z /\ z < x7.heap.size) fun z hz hT => ⟨hT,hz⟩).nw hND7) hs1 (by omega) ?_
   intro qE cE wE hE hFE
   have hOE := (hOC.nw hND).fr hFE (fun h => by have := hl3 _ h.1; omega)
   refine stores_i hOE (by simp [sets_length]) ?_; intro wF hOF hFF wF_sz; try simp only [drew_heap',dr_heap] at wF_sz hFF
   simp only [sets,ZH,ZI] at hOF
   have hBF := (((hxB.nw hNC).nw hND).fr hFE (fun h => by have := hl3 _ h.1; omega)).fr hFF hbb2
   have hbind : IsObj wD.heap (fun z => x7.heap.size <= z) ⟨r.cls,⟨qB,r.fields.n,r.fields.n⟩⟩ x := ⟨hrx.cls,(hAB.fr hFC (fun z _ hz e => by have : w9.heap.size <= z := hz; omega) (fun z _ hz => hz)).fr hND (fun _ _ _ h => h) (fun z _ hz => by have : w9.heap.size <= z := hz; omega)⟩
   rw [wrap_id (by omega) (by omega)]
   refine ⟨⟨i + 1,qE,i + 1,cE,Old (fun z => TO z /\ z < x7.heap.size) wD.heap,rfl,by omega,rfl,hBF,hOF,?_,?_⟩,by (first | omega | (dsimp only; omega))⟩
   ·rw [take_succ_some hx]
    exact Made1.push hl1 hl2 hl3 (fun h hf hd hok => IsObj.fr h hf hd hok) hxle (by omega) hND7 hE hFE hFF hbind
   ·exact ((hxF.trans hND7.fr (fun _ _ h => h) (fun _ _ h => h)).trans (T := fun y => y = b2) hFE (fun _ _ h => h) (fun z hz h => by have := hl3 _ h.1; omega)).trans hFF (fun _ _ h => h) (fun _ _ h => h)
  obtain ⟨lo',hlo1,hlo2⟩ := hxM.done (fun h hok => IsObj.fr h (Fr.refl (fun _ => False) _) (fun _ _ _ h => h) hok)
  rw [List.take_of_length_le (by omega)] at hlo2
  refine ⟨pn,c.names.n,c.names.n,q,k,d,q2,j,d2,q3,i,d3,c.main,hxO.holds,?_⟩
  have hb1x := ((hB16.fr hF67 hb12).fr hvF hb12).fr hxF hb12
  refine stores_i hb1x (by simp [sets_length]) ?_; intro wZ hBZ hFZ wZ_sz; try simp only [drew_heap',dr_heap] at wZ_sz hFZ
  simp only [sets,ZH,ZI] at hBZ
  refine ⟨pn,c.names.n,c.names.n,q,k,d,q2,j,d2,q3,i,d3,c.main,hBZ.holds,?_⟩
  have hb1lt := hB16.lt
  have hF6Z : Fr (fun y => y = b2 \/ y = b1) w6.heap wZ.heap := ((hF67.trans' hvF).trans' hxF).trans hFZ (fun _ _ h => .inl h) (fun _ _ h => .inr h)
  have hF7Z : Fr (fun y => y = b2 \/ y = b1) w7.heap wZ.heap := (hvF.trans' hxF).trans hFZ (fun _ _ h => .inl h) (fun _ _ h => .inr h)
  have hFvZ : Fr (fun y => y = b2 \/ y = b1) v7.heap wZ.heap := hxF.trans hFZ (fun _ _ h => .inl h) (fun _ _ h => .inr h)
  have hFxZ : Fr (fun y => y = b2 \/ y = b1) x7.heap wZ.heap := hFZ.mono (fun _ _ h => .inr h)
  have hle6 := hNw6.le
  have dis : ∀ {n : Nat} (y : Nat),w6.heap.size <= n -> n <= y -> ¬ (y = b2 \/ y = b1) := fun y h1 h2 e => by rcases e with e | e <;> omega
  refine ⟨⟨⟨pn,c.names.n,c.names.n⟩,⟨q,k,d⟩,⟨q2,j,d2⟩,⟨q3,i,d3⟩,c.main⟩,rfl,⟨?_,⟨lc',?_,?_⟩,⟨lm',?_,?_⟩,⟨lo',?_,?_⟩,hu.main⟩,hxN.tr' hFZ fun y h => by rw [h]; exact hb1w⟩
  ·exact hnm.fr hF6Z (fun y _ h e => by rcases e with e | e; exact h.2.1 e; exact h.2.2 e) (fun y _ h => h.1)
  ·exact hlc1.fr hF7Z (fun y _ h => dis y (Nat.le_refl _) h) (fun y _ h => Nat.le_trans hle6 h)
  ·exact hlc2.mono fun _ _ hr => hr.fr hF7Z (fun y _ h => dis y (Nat.le_refl _) h) (fun y _ h => Nat.le_trans hle6 h)
  ·exact hlm1.fr hFvZ (fun y _ h => dis y hle67 h) (fun y _ h => Nat.le_trans hle6 (Nat.le_trans hle67 h))
  ·exact hlm2.mono fun _ _ hr => hr.fr hFvZ (fun y _ h => dis y hle67 h) (fun y _ h => Nat.le_trans hle6 (Nat.le_trans hle67 h))
  ·exact hlo1.fr hFxZ (fun y _ h => dis y (Nat.le_trans hle67 hvle) h) (fun y _ h => Nat.le_trans hle6 (Nat.le_trans hle67 (Nat.le_trans hvle h)))
  ·exact hlo2.mono fun _ _ hr => hr.fr hFxZ (fun y _ h => dis y (Nat.le_trans hle67 hvle) h) (fun y _ h => Nat.le_trans hle6 (Nat.le_trans hle67 (Nat.le_trans hvle h)))
end
end
section
def fromIn (m : Int) : List TClass -> Int
 | [] => -1
 | c :: l => if c.binds.any (fun b => decide (b.method = m)) then c.super else fromIn m l
def pPath (π : TPool) (home : Int) : Nat -> Int -> Option (List Int)
 | 0,_ => none
 | n + 1,f => if f = home then some [f] else if (pAt π f).1.sender < 0 then none else (pPath π home n (pAt π f).1.sender).map (f :: ·)
section
variable {α : Type} (O : StoreOps α)
def dFrom (σ : TM α) (δ : TD) : Int × Int :=
 let h := pAt σ.pool δ.x.home
 if h.2 = false then (-1,6) else if ¬ h.1.serial = σ.kept.getD δ.f.toNat 0 then (-1,6) else (fromIn h.1.method σ.u.classes,0)
def dBack (σ : TM α) (δ : TD) (s v : Int) : TM α := if s < 0 then mEnd O σ δ.p v else { σ with top := σ.top.set δ.p.toNat s,pool := pPush σ.pool s v }
def dHome (σ : TM α) (δ : TD) : Int × TM α :=
 let h := pAt σ.pool δ.x.home
 if h.2 = false then (6,σ) else if ¬ h.1.serial = σ.kept.getD δ.f.toNat 0 then (6,σ)
 else match pPath σ.pool δ.x.home 24 δ.f with
  | none => (6,σ)
  | some l => (0,dBack O { σ with pool := l.foldl pGive σ.pool } δ h.1.sender (dUnder δ 0))
end
section
variable {α : Type} {O : StoreOps α} {I : Hp -> (Nat -> Prop) -> Value -> α -> Prop} {OK : Nat -> Prop} {n0 : Nat} {m : Nat} {K : MK} {D : DK} {σ : TM α} {δ : TD} {w : World}
theorem act_back_ok (hc : CT O I OK n0 w.heap m K D σ δ) (hq : QInv σ.queue) (hl : σ.events.length < 999990) (hp : 0 <= δ.p /\ δ.p < 6) (s v : Int) : Calls P F.Z31 #[.pointer (some ⟨D.d,0,none⟩),.int .i64 s,.int .u32 v] w (DTo O I OK n0 m K D δ (.tuple #[]) (dBack O σ δ s v) w) := by
 refine oZ31 ?_
 unfold dBack
 have hc0 : CT O I OK n0 w.drew.heap m K D σ δ := hc
 refine br_of (fun h => ?_) (fun h => ?_) <;> simp only [ZJ,ZK,ZL,ZM,ZN,ZO,ZP,ZQ,ZR] at h
 ·rw [if_pos h]
  refine ⟨_,hc0.d0,_,hc0.d1,?_⟩
  refine (act_end_ok hc0.inv hq hl hp v).mono ?_; rintro _ w2 ⟨rfl,hM2,hF2⟩
  exact ⟨rfl,trivial,rfl,hc0.to hM2 hF2,hF2⟩
 ·rw [if_neg (by omega)]
  refine ⟨_,hc0.d0,_,hc0.d1,?_⟩
  rw [onPtr_some]
  refine chk_of (by simp; omega) ?_
  refine hc0.inv.stop (k := δ.p.toNat) (by omega) s ?_; intro w2 hM2 hF2 _ _
  have hc2 := hc0.to hM2 hF2
  refine ⟨trivial,_,hc2.d0,?_⟩
  rw [onPtr_some]
  refine ⟨_,hc2.inv.c6,?_⟩
  obtain ⟨o,ho,hP,back⟩ := hc2.inv.pool
  refine (frame_Push_ok hP s v).mono ?_; rintro _ w3 ⟨t,rfl,hP3,hF3⟩
  obtain ⟨hM3,hFo3⟩ := back _ _ hP3 hF3
  exact ⟨_,rfl,rfl,hc2.to hM3 hFo3,Fr.trans' (h := w.heap) hF2 hFo3⟩
theorem act_from_1_ok {x : TBind} {y : Int} {r : List Value} {b1 : Nat} (hB : Bk w.heap b1 (.int .i64 y :: r)) : Calls P F.Z4g #[.agg #[.int .i64 x.sel,.int .i64 x.method],.pointer (some ⟨b1,0,none⟩)] w (Mk (.bool (decide (x.method = y))) w) := by
 refine oZ4g ?_
 refine newB_i ?_; intro b w1 b_eq hB1 hN w1_sz; try simp only [drew_heap',dr_heap] at b_eq hN
 replace hB := hB.nw hN
 simp only [holds,Z1,Z2,Z3,Z4,Z5,Z6,Z7,Z8,Z9,ZA,ZB,ZC,ZD,ZE,ZF,ZG,true_and,and_true,ZS,ZT,exists_eq',and_assoc,wv_eq,dr_cell,ZU,join_eq,br_true,br_false,chk_true,decide_true,decide_false,Bool.not_true,Bool.not_false,Nat.zero_add,sets,ZH,ZI,onPtr_some,onIface_some,onFunc_some,nilVC_iface,hB1.cell]
 simp only [holds,Z1,Z2,Z3,Z4,Z5,Z6,Z7,Z8,Z9,ZA,ZB,ZC,ZD,ZE,ZF,ZG,true_and,and_true,ZS,ZT,exists_eq',and_assoc,wv_eq,dr_cell,ZU,join_eq,br_true,br_false,chk_true,decide_true,decide_false,Bool.not_true,Bool.not_false,Nat.zero_add,sets,ZH,ZI,onPtr_some,onIface_some,onFunc_some,nilVC_iface,hB.cell]
 exact ⟨rfl,hN⟩
theorem act_from_ok (hc : CT O I OK n0 w.heap m K D σ δ) (hf : 0 <= δ.f /\ δ.f < 24) : Calls P F.Z3y #[.pointer (some ⟨D.d,0,none⟩)] w (Mk (.tuple #[.int .i64 (dFrom σ δ).1,.int .i64 (dFrom σ δ).2]) w) := by
 refine oZ3y ?_
 unfold vZ3y
 rw [wv_eq]
 have hN0 : Nw w.heap w.drew.heap := Nw.rfl'
 replace hc : CT O I OK n0 w.drew.heap m K D σ δ := hc
 refine ⟨_,hc.d0,?_⟩
 rw [onPtr_some]
 refine ⟨_,hc.inv.c6,_,hc.d6,?_⟩
 unfold dFrom
 dsimp only
 obtain ⟨H,hH⟩ : ∃ H,H = pAt σ.pool δ.x.home := ⟨_,rfl⟩
 rw [<- hH]
 constructor
 ·obtain ⟨o,ho,hP,_⟩ := hc.inv.pool
  refine (frame_At_ok hP δ.x.home).mono ?_; rintro _ w1 ⟨rf,rfl,hrf,hN1⟩
  rw [<- hH] at hrf ⊢
  have hc1 := hc.nw hN1
  refine ⟨_,_,_,_,_,_,_,_,_,_,_,_,_,rfl,⟨hc1.d0,trivial⟩,?_⟩
  refine newB_i ?_; intro b w2 b_eq hB2 hN2 w2_sz; try simp only [drew_heap',dr_heap] at b_eq hN2
  have hc2 := hc1.nw hN2
  refine ⟨⟨hc2.d0,trivial⟩,?_⟩
  refine stores_i hB2 (by simp [sets_length]) ?_; intro w3 hB3 hF3 w3_sz; try simp only [drew_heap',dr_heap] at w3_sz hF3
  simp only [sets,ZH,ZI] at hB3
  have hle1 := hN1.le
  have hN3 : Nw w.heap w3.heap := (hN1.tr hN2).st hF3 (by simp only [drew_heap'] at *; omega)
  refine ⟨trivial,?_⟩
  rw [join_eq,wv_eq]
  replace hN3 : Nw w.heap w3.drew.heap := hN3
  replace hB3 : Bk w3.drew.heap b rf.vs := hB3
  have hc3 := hc.nw hN3
  generalize w3.drew = w4 at *
  refine br_of (fun h5 => ?_) (fun h5 => ?_) <;> simp only [ZL,ZM] at h5
  ·rw [if_pos h5]; exact ⟨rfl,hN3⟩
  rw [if_neg (show ¬ H.2 = false by rw [h5]; simp)]
  refine ⟨rf.serial,by rw [hB3.cell]; rfl,_,hc3.d0,_,hc3.d2,?_⟩
  rw [onPtr_some]
  refine chk_of (by simp; omega) ⟨_,hc3.inv.ckept (k := δ.f.toNat) (by omega),?_⟩
  refine br_of (fun h6 => ?_) (fun h6 => ?_) <;> simp only [ZL,ZM,ZJ,ZK] at h6
  ·rw [if_pos (by rw [<- hrf.serial]; exact h6)]; exact ⟨rfl,hN3⟩
  rw [if_neg (by rw [<- hrf.serial]; exact fun h => h h6)]
  refine ⟨_,hc3.d0,?_⟩
  rw [onPtr_some]
  refine ⟨_,_,_,hc3.inv.c1,?_⟩
  obtain ⟨ou,_,hu⟩ := hc3.inv.unit
  obtain ⟨lc,hlc,hcA⟩ := hu.classes
  have hcn : K.c.classes.n = σ.u.classes.length := by rw [<- hlc.len,hcA.len]
  have hsm := hlc.small
  obtain ⟨r0,hr0⟩ : ∃ r,r = fromIn H.1.method σ.u.classes := ⟨_,rfl⟩
  rw [<- hr0]
  refine ⟨fun t w' => ∃ k : Nat,t = (k : Int) /\ k <= K.c.classes.n /\ r0 = fromIn H.1.method (σ.u.classes.drop k) /\ Nw w4.heap w'.heap,fun t _ => K.c.classes.n - t.toNat,⟨0,rfl,Nat.zero_le _,hr0,Nw.rfl'⟩,?_⟩
  rintro t w5 ⟨k,rfl,hk,he,hN5⟩
  refine br_of (fun h7 => ?_) (fun h7 => ?_) <;> simp only [ZJ,ZK,ZL,ZM,ZN,ZO,ZP,ZQ,ZR] at h7
  ·refine chk_of (by simp; omega) ?_
   obtain ⟨r,x,hr,hx,hrx⟩ := hcA.getL (i := k) (by omega)
   refine (hlc.nw hN5).idx hr ?_; intro g o _ hh
   refine ⟨_,_,_,_,_,_,hh,?_⟩
   refine newB_i ?_; intro b7 w7 b7_eq hB7 hN7 w7_sz; try simp only [drew_heap',dr_heap] at b7_eq hN7
   refine stores_i hB7 (by simp [sets_length]) ?_; intro w8 hB8 hF8 w8_sz; try simp only [drew_heap',dr_heap] at w8_sz hF8
   simp only [sets,ZH,ZI] at hB8
   have hN78 : Nw w5.heap w8.heap := hN7.st hF8 (by omega)
   have hN48 := hN5.tr hN78
   refine ⟨r.binds.p,r.binds.n,r.binds.c,by rw [hB8.cell]; rfl,?_⟩
   refine (slices_ContainsFunc_api_Bind_api_Bind_ok (fn := F.Z4g) (fa := #[]) (fb := #[.pointer (some ⟨b,0,none⟩)]) (hrx.binds.nw hN48) (fun y => decide (y.method = rf.method)) (by kernel_rfl) (fun y wx _ hNx => act_from_1_ok ((hB3.nw hN48).nw hNx))).mono ?_; rintro _ w9 ⟨rfl,hN9⟩
   refine ⟨_,rfl,?_⟩
   have hdrop : σ.u.classes.drop k = x :: σ.u.classes.drop (k + 1) := by
    obtain ⟨hk',rfl⟩ := List.getElem?_eq_some_iff.1 hx
    exact List.drop_eq_getElem_cons hk'
   rw [hdrop,fromIn,<- hrf.method] at he
   refine br_of (fun h8 => ?_) (fun h8 => ?_)
   ·rw [if_pos h8] at he
    refine ⟨r.super,by rw [(hB8.nw hN9).cell]; rfl,?_,hN3.tr (hN48.tr hN9)⟩
    rw [he,hrx.super]
   ·rw [if_neg (by rw [h8]; simp),hrf.method] at he
    rw [wrap_id (by omega) (by omega)]
    exact ⟨⟨k + 1,rfl,by omega,he,hN48.tr hN9⟩,by (first | omega | (dsimp only; omega))⟩
  ·rw [List.drop_of_length_le (by omega),fromIn] at he
   exact ⟨by rw [he],hN3.tr hN5⟩
 ·refine newB_i ?_; intro b w2 b_eq hB2 hN2 w2_sz; try simp only [drew_heap',dr_heap] at b_eq hN2
  have hc2 := hc.nw hN2
  refine ⟨⟨hc2.d6,hc2.inv.c6,hc2.d0,trivial⟩,?_⟩
  obtain ⟨o,ho,hP,_⟩ := hc2.inv.pool
  refine (frame_At_ok hP δ.x.home).mono ?_; rintro _ w1 ⟨rf,rfl,hrf,hN1⟩
  rw [<- hH] at hrf ⊢
  have hc1 := hc2.nw hN1
  refine ⟨_,_,_,_,_,_,_,_,_,_,_,_,_,rfl,⟨hc1.d0,trivial⟩,?_⟩
  have hB21 := hB2.nw hN1
  refine stores_i hB21 (by simp [sets_length]) ?_; intro w3 hB3 hF3 w3_sz; try simp only [drew_heap',dr_heap] at w3_sz hF3
  simp only [sets,ZH,ZI] at hB3
  have hN3 : Nw w.heap w3.heap := Nw.st (hN2.tr hN1) hF3 (by simp only [drew_heap'] at *; omega)
  refine ⟨trivial,?_⟩
  rw [join_eq,wv_eq]
  replace hN3 : Nw w.heap w3.drew.heap := hN3
  replace hB3 : Bk w3.drew.heap b rf.vs := hB3
  have hc3 := hc.nw hN3
  generalize w3.drew = w4 at *
  refine br_of (fun h5 => ?_) (fun h5 => ?_) <;> simp only [ZL,ZM] at h5
  ·rw [if_pos h5]; exact ⟨rfl,hN3⟩
  rw [if_neg (show ¬ H.2 = false by rw [h5]; simp)]
  refine ⟨rf.serial,by rw [hB3.cell]; rfl,_,hc3.d0,_,hc3.d2,?_⟩
  rw [onPtr_some]
  refine chk_of (by simp; omega) ⟨_,hc3.inv.ckept (k := δ.f.toNat) (by omega),?_⟩
  refine br_of (fun h6 => ?_) (fun h6 => ?_) <;> simp only [ZL,ZM,ZJ,ZK] at h6
  ·rw [if_pos (by rw [<- hrf.serial]; exact h6)]; exact ⟨rfl,hN3⟩
  rw [if_neg (by rw [<- hrf.serial]; exact fun h => h h6)]
  refine ⟨_,hc3.d0,?_⟩
  rw [onPtr_some]
  refine ⟨_,_,_,hc3.inv.c1,?_⟩
  obtain ⟨ou,_,hu⟩ := hc3.inv.unit
  obtain ⟨lc,hlc,hcA⟩ := hu.classes
  have hcn : K.c.classes.n = σ.u.classes.length := by rw [<- hlc.len,hcA.len]
  have hsm := hlc.small
  obtain ⟨r0,hr0⟩ : ∃ r,r = fromIn H.1.method σ.u.classes := ⟨_,rfl⟩
  rw [<- hr0]
  refine ⟨fun t w' => ∃ k : Nat,t = (k : Int) /\ k <= K.c.classes.n /\ r0 = fromIn H.1.method (σ.u.classes.drop k) /\ Nw w4.heap w'.heap,fun t _ => K.c.classes.n - t.toNat,⟨0,rfl,Nat.zero_le _,hr0,Nw.rfl'⟩,?_⟩
  rintro t w5 ⟨k,rfl,hk,he,hN5⟩
  refine br_of (fun h7 => ?_) (fun h7 => ?_) <;> simp only [ZJ,ZK,ZL,ZM,ZN,ZO,ZP,ZQ,ZR] at h7
  ·refine chk_of (by simp; omega) ?_
   obtain ⟨r,x,hr,hx,hrx⟩ := hcA.getL (i := k) (by omega)
   refine (hlc.nw hN5).idx hr ?_; intro g o _ hh
   refine ⟨_,_,_,_,_,_,hh,?_⟩
   refine newB_i ?_; intro b7 w7 b7_eq hB7 hN7 w7_sz; try simp only [drew_heap',dr_heap] at b7_eq hN7
   refine stores_i hB7 (by simp [sets_length]) ?_; intro w8 hB8 hF8 w8_sz; try simp only [drew_heap',dr_heap] at w8_sz hF8
   simp only [sets,ZH,ZI] at hB8
   have hN78 : Nw w5.heap w8.heap := hN7.st hF8 (by omega)
   have hN48 := hN5.tr hN78
   refine ⟨r.binds.p,r.binds.n,r.binds.c,by rw [hB8.cell]; rfl,?_⟩
   refine (slices_ContainsFunc_api_Bind_api_Bind_ok (fn := F.Z4g) (fa := #[]) (fb := #[.pointer (some ⟨b,0,none⟩)]) (hrx.binds.nw hN48) (fun y => decide (y.method = rf.method)) (by kernel_rfl) (fun y wx _ hNx => act_from_1_ok ((hB3.nw hN48).nw hNx))).mono ?_; rintro _ w9 ⟨rfl,hN9⟩
   refine ⟨_,rfl,?_⟩
   have hdrop : σ.u.classes.drop k = x :: σ.u.classes.drop (k + 1) := by
    obtain ⟨hk',rfl⟩ := List.getElem?_eq_some_iff.1 hx
    exact List.drop_eq_getElem_cons hk'
   rw [hdrop,fromIn,<- hrf.method] at he
   refine br_of (fun h8 => ?_) (fun h8 => ?_)
   ·rw [if_pos h8] at he
    refine ⟨r.super,by rw [(hB8.nw hN9).cell]; rfl,?_,hN3.tr (hN48.tr hN9)⟩
    rw [he,hrx.super]
   ·rw [if_neg (by rw [h8]; simp),hrf.method] at he
    rw [wrap_id (by omega) (by omega)]
    exact ⟨⟨k + 1,rfl,by omega,he,hN48.tr hN9⟩,by (first | omega | (dsimp only; omega))⟩
  ·rw [List.drop_of_length_le (by omega),fromIn] at he
   exact ⟨by rw [he],hN3.tr hN5⟩
theorem act_home_ok (hc : CT O I OK n0 w.heap m K D σ δ) (hf : 0 <= δ.f /\ δ.f < 24) (hQI : QInv σ.queue) (hl : σ.events.length < 999990) (hp : 0 <= δ.p /\ δ.p < 6) (hst : 0 < δ.x.stack.length) {L : List Int} (hL : ChainOf σ.pool L δ.f) (hn : L.Nodup) : Calls P F.Z32 #[.pointer (some ⟨D.d,0,none⟩)] w (DTo O I OK n0 m K D δ (.int .i64 (dHome O σ δ).1) (dHome O σ δ).2 w) := by
 refine oZ32 ?_
 unfold vZ32
 rw [wv_eq]
 replace hc : CT O I OK n0 w.drew.heap m K D σ δ := hc
 refine ⟨_,hc.d0,?_⟩
 rw [onPtr_some]
 refine ⟨_,hc.inv.c6,_,hc.d6,?_⟩
 unfold dHome
 dsimp only
 obtain ⟨H,hH⟩ : ∃ H,H = pAt σ.pool δ.x.home := ⟨_,rfl⟩
 rw [<- hH]
 constructor
 ·obtain ⟨o,ho,hP,_⟩ := hc.inv.pool
  refine (frame_At_ok hP δ.x.home).mono ?_; rintro _ w1 ⟨rf,rfl,hrf,hN1⟩
  rw [<- hH] at hrf ⊢
  have hc1 := hc.nw hN1
  refine ⟨_,_,_,_,_,_,_,_,_,_,_,_,_,rfl,⟨hc1.d0,trivial⟩,?_⟩
  refine newB_i ?_; intro b w2 b_eq hB2 hN2 w2_sz; try simp only [drew_heap',dr_heap] at b_eq hN2
  have hc2 := hc1.nw hN2
  refine ⟨⟨hc2.d0,trivial⟩,?_⟩
  refine stores_i hB2 (by simp [sets_length]) ?_; intro w3 hB3 hF3 w3_sz; try simp only [drew_heap',dr_heap] at w3_sz hF3
  simp only [sets,ZH,ZI] at hB3
  have hle1 := hN1.le
  have hN3 : Nw w.heap w3.heap := (hN1.tr hN2).st hF3 (by simp only [drew_heap'] at *; omega)
  refine ⟨trivial,?_⟩
  rw [join_eq,wv_eq]
  replace hN3 : Nw w.heap w3.drew.heap := hN3
  replace hB3 : Bk w3.drew.heap b rf.vs := hB3
  have hc3 := hc.nw hN3
  generalize w3.drew = w4 at *
  refine br_of (fun h5 => ?_) (fun h5 => ?_) <;> simp only [ZL,ZM] at h5
  ·rw [if_pos h5]; exact ⟨rfl,hc3,hN3.ok⟩
  rw [if_neg (show ¬ H.2 = false by rw [h5]; simp)]
  refine ⟨rf.serial,by rw [hB3.cell]; rfl,_,hc3.d0,_,hc3.d2,?_⟩
  rw [onPtr_some]
  refine chk_of (by simp; omega) ⟨_,hc3.inv.ckept (k := δ.f.toNat) (by omega),?_⟩
  refine br_of (fun h6 => ?_) (fun h6 => ?_) <;> simp only [ZL,ZM,ZJ,ZK] at h6
  ·rw [if_pos (by rw [<- hrf.serial]; exact h6)]; exact ⟨rfl,hc3,hN3.ok⟩
  rw [if_neg (by rw [<- hrf.serial]; exact fun h => h h6)]
  refine ⟨_,hc3.d2,?_⟩
  obtain ⟨r0,hr0⟩ : ∃ r,r = pPath σ.pool δ.x.home 24 δ.f := ⟨_,rfl⟩
  rw [<- hr0]
  refine newB_i ?_; intro b1 w5 b1_eq hB5 hN5 w5_sz; try simp only [drew_heap',dr_heap] at b1_eq hN5
  have hs5 : Sl w5.heap (fun y => w4.heap.size <= y) eI64 (some ⟨b1,0,none⟩) 1 1 [δ.f] := (Sl.of_blk (l := [δ.f]) (E := eI64) hB5 rfl rfl (by simp)).mono fun y _ h => by rw [<- h]; omega
  obtain ⟨f0,L0,hL0⟩ : ∃ f0 L0,L = f0 :: L0 := by
   cases L with
   | nil => have : δ.f < 0 := hL; omega
   | cons f0 L0 => exact ⟨f0,L0,rfl⟩
  have hlen24 := hL.len hn
  have e0 : δ.f = f0 := by rw [hL0] at hL; exact hL.1
  have hLc : ChainOf σ.pool (δ.f :: L0) δ.f := by rw [e0]; rw [hL0,e0] at hL; exact hL
  have hL1 : L = δ.f :: L0 := by rw [e0]; exact hL0
  refine ⟨fun q w' => ∃ (pre : List Int) (t : Int) (L2 : List Int) (kp : Nat),L = pre ++ t :: L2 /\ ChainOf σ.pool (t :: L2) t /\ r0 = (pPath σ.pool δ.x.home kp t).map (pre ++ ·) /\ (t :: L2).length <= kp /\ Sl w'.heap (fun y => w4.heap.size <= y) eI64 q.1 q.2.1 q.2.2 (pre ++ [t]) /\ Nw w4.heap w'.heap,fun q _ => 100 - q.2.1,⟨[],δ.f,L0,24,?_,?_,?_,?_,hs5,hN5⟩,?_⟩
  ·exact hL1
  ·exact hLc
  ·rw [hr0]; cases pPath σ.pool δ.x.home 24 δ.f <;> rfl
  ·rw [hL1] at hlen24; exact hlen24
  rintro ⟨q,n,d⟩ w6 ⟨pre,t,L2,kp,hL,hch,hpp,hkl,hsl,hN6⟩
  simp only at hsl
  have hnl := hsl.len
  simp only [List.length_append,List.length_cons,List.length_nil] at hnl
  have hpl : n <= 24 := by rw [hL] at hlen24; simp at hlen24; omega
  obtain ⟨_,hi,hch⟩ := hch
  rw [wv_eq]
  have ht1 : IntKind.wrap .i64 ((n : Int) - 1) = ((n - 1 : Nat) : Int) := by rw [wrap_id (by omega) (by omega)]; omega
  rw [ht1]
  have hgt : (pre ++ [t])[n - 1]? = some t := by rw [show n - 1 = pre.length by omega]; simp
  refine chk_of (by simp; omega) ?_
  obtain ⟨gq,oq,hq⟩ : ∃ g o,q = some ⟨g,o,none⟩ := by
   obtain ⟨g,pr,po,e,_⟩ := hsl.addr (i := 0) (by omega)
   exact ⟨g,_,e⟩
  have hcq : ∀ w' : World,Sl w'.heap (fun y => w4.heap.size <= y) eI64 q n d (pre ++ [t]) -> w'.cell? ⟨gq,oq + (n - 1) * 1,none⟩ = some (.int .i64 t) := fun w' h => by
   have := h.idx1 (K := fun g o => w'.cell? ⟨g,o + (n - 1) * 1,none⟩ = some (.int .i64 t)) hgt (fun g o _ h => h)
   rw [hq] at this
   exact this
  rw [show onPtr q = onPtr (some ⟨gq,oq,none⟩) by rw [hq],onPtr_some]
  have hc6 : CT O I OK n0 w6.drew.heap m K D σ δ := hc3.nw hN6
  refine ⟨t,hcq w6.drew hsl,_,hc6.d6,?_⟩
  refine br_of (fun hth => ?_) (fun hth => ?_) <;> simp only [ZL,ZM,ZJ,ZK] at hth
  ·have hc7 : CT O I OK n0 w6.drew.drew.heap m K D σ δ := hc6
   refine ⟨_,hc7.d0,?_⟩
   rw [onPtr_some]
   refine ⟨_,hc7.inv.c6,chk_of (by simp; omega) ?_⟩
   rw [onPtr_some]
   refine ⟨t,hcq w6.drew.drew hsl,?_,?_⟩
   ·obtain ⟨o,ho,hP,_⟩ := hc7.inv.pool
    refine (frame_At_ok hP t).mono ?_; rintro _ w9 ⟨rg,rfl,hrg,hN9⟩
    replace hN9 : Nw w6.heap w9.heap := hN9
    have hc9 : CT O I OK n0 w9.heap m K D σ δ := hc6.nw hN9
    refine ⟨_,_,_,_,_,_,_,_,_,_,_,_,_,rfl,⟨hc9.d0,trivial⟩,?_⟩
    refine newB_i ?_; intro b2 wa b2_eq hBa hNa wa_sz; try simp only [drew_heap',dr_heap] at b2_eq hNa
    have hca := hc9.nw hNa
    refine ⟨⟨hca.d0,trivial⟩,?_⟩
    refine stores_i hBa (by simp [sets_length]) ?_; intro wb hBb hFb wb_sz; try simp only [drew_heap',dr_heap] at wb_sz hFb
    simp only [sets,ZH,ZI] at hBb
    have hle9 := hN9.le
    have hNb : Nw w6.heap wb.heap := (hN9.tr hNa).st hFb (by omega)
    refine ⟨trivial,?_⟩
    have hsend : rg.sender = (σ.pool.fr t).sender := by rw [hrg.sender]; simp only [pAt,hi,if_true]
    refine ⟨rg.sender,by rw [hBb.cell]; rfl,?_⟩
    have hpx : (pAt σ.pool t).1.sender = rg.sender := by rw [hsend]; simp only [pAt,hi,if_true]
    obtain ⟨kk,rfl⟩ : ∃ k',kp = k' + 1 := ⟨kp - 1,by simp at hkl; omega⟩
    rw [pPath,if_neg hth,hpx] at hpp
    refine br_of (fun hneg => ?_) (fun hneg => ?_) <;> simp only [ZJ,ZK,ZL,ZM,ZN,ZO,ZP,ZQ,ZR] at hneg
    ·rw [if_pos hneg] at hpp
     simp only [Option.map_none] at hpp
     rw [hpp]
     exact ⟨rfl,hc3.nw (hN6.tr hNb),(hN3.tr (hN6.tr hNb)).ok⟩
    ·rw [if_neg (by omega)] at hpp
     refine ⟨rg.sender,by rw [hBb.cell]; rfl,?_⟩
     refine newB_i ?_; intro bz wz bz_eq hBz hNz wz_sz; try simp only [drew_heap',dr_heap] at bz_eq hNz
     obtain ⟨s,L3,hL2⟩ : ∃ s L3,L2 = s :: L3 := by
      cases L2 with
      | nil => have : (σ.pool.fr t).sender < 0 := hch; omega
      | cons s L3 => exact ⟨s,L3,rfl⟩
     subst hL2
     have hch' := hch
     obtain ⟨hs0,hs1,hs2⟩ := hch'
     have hs3 : s = rg.sender := by rw [hsend]; exact hs0.symm
     have hs4 : Sl wz.heap (fun y => y = bz) eI64 (some ⟨bz,0,none⟩) 1 1 [rg.sender] := (Sl.of_blk (l := [rg.sender]) (E := eI64) hBz rfl rfl (by simp)).mono fun _ _ h => h.symm
     have hNq := hNb.tr hNz
     refine append_r ty_int ((hsl.mono fun y hy h => (⟨h,hy⟩ : w4.heap.size <= y /\ y < w6.heap.size)).nw hNq) hs4 (by omega) ?_
     intro q' d' wy hy' hFy
     have hle6 := hN6.le; have hleq := hNq.le
     refine ⟨⟨pre ++ [t],s,L3,kk,by rw [hL]; simp,⟨rfl,hs1,hs2⟩,?_,by simp at hkl; omega,?_,?_⟩,?_⟩
     ·rw [hpp,Option.map_map,hs3]
      congr 1
      funext l
      simp
     ·rw [hs3]
      refine hy'.mono fun y _ h => ?_
      rcases h with h | h
      ·exact h.1
      ·show w4.heap.size <= y; omega
     ·exact (hN6.tr hNq).tr' hFy fun y h => h.1
     ·show 100 - (n + 1) < 100 - n
      omega
   ·refine newB_i ?_; intro b2 wa b2_eq hBa hNa wa_sz; try simp only [drew_heap',dr_heap] at b2_eq hNa
    replace hNa : Nw w6.heap wa.heap := hNa
    have hca : CT O I OK n0 wa.heap m K D σ δ := hc6.nw hNa
    refine ⟨⟨hcq wa (hsl.nw hNa),hca.inv.c6,hca.d0,trivial⟩,?_⟩
    obtain ⟨o,ho,hP,_⟩ := hca.inv.pool
    refine (frame_At_ok hP t).mono ?_; rintro _ w9 ⟨rg,rfl,hrg,hN9⟩
    have hc9 := hca.nw hN9
    refine ⟨_,_,_,_,_,_,_,_,_,_,_,_,_,rfl,⟨hc9.d0,trivial⟩,?_⟩
    have hBa9 := hBa.nw hN9
    refine stores_i hBa9 (by simp [sets_length]) ?_; intro wb hBb hFb wb_sz; try simp only [drew_heap',dr_heap] at wb_sz hFb
    simp only [sets,ZH,ZI] at hBb
    have hNb : Nw w6.heap wb.heap := Nw.st (hNa.tr hN9) hFb (by simp only [drew_heap'] at *; omega)
    refine ⟨trivial,?_⟩
    have hsend : rg.sender = (σ.pool.fr t).sender := by rw [hrg.sender]; simp only [pAt,hi,if_true]
    refine ⟨rg.sender,by rw [hBb.cell]; rfl,?_⟩
    have hpx : (pAt σ.pool t).1.sender = rg.sender := by rw [hsend]; simp only [pAt,hi,if_true]
    obtain ⟨kk,rfl⟩ : ∃ k',kp = k' + 1 := ⟨kp - 1,by simp at hkl; omega⟩
    rw [pPath,if_neg hth,hpx] at hpp
    refine br_of (fun hneg => ?_) (fun hneg => ?_) <;> simp only [ZJ,ZK,ZL,ZM,ZN,ZO,ZP,ZQ,ZR] at hneg
    ·rw [if_pos hneg] at hpp
     simp only [Option.map_none] at hpp
     rw [hpp]
     exact ⟨rfl,hc3.nw (hN6.tr hNb),(hN3.tr (hN6.tr hNb)).ok⟩
    ·rw [if_neg (by omega)] at hpp
     refine ⟨rg.sender,by rw [hBb.cell]; rfl,?_⟩
     refine newB_i ?_; intro bz wz bz_eq hBz hNz wz_sz; try simp only [drew_heap',dr_heap] at bz_eq hNz
     obtain ⟨s,L3,hL2⟩ : ∃ s L3,L2 = s :: L3 := by
      cases L2 with
      | nil => have : (σ.pool.fr t).sender < 0 := hch; omega
      | cons s L3 => exact ⟨s,L3,rfl⟩
     subst hL2
     have hch' := hch
     obtain ⟨hs0,hs1,hs2⟩ := hch'
     have hs3 : s = rg.sender := by rw [hsend]; exact hs0.symm
     have hs4 : Sl wz.heap (fun y => y = bz) eI64 (some ⟨bz,0,none⟩) 1 1 [rg.sender] := (Sl.of_blk (l := [rg.sender]) (E := eI64) hBz rfl rfl (by simp)).mono fun _ _ h => h.symm
     have hNq := hNb.tr hNz
     refine append_r ty_int ((hsl.mono fun y hy h => (⟨h,hy⟩ : w4.heap.size <= y /\ y < w6.heap.size)).nw hNq) hs4 (by omega) ?_
     intro q' d' wy hy' hFy
     have hle6 := hN6.le; have hleq := hNq.le
     refine ⟨⟨pre ++ [t],s,L3,kk,by rw [hL]; simp,⟨rfl,hs1,hs2⟩,?_,by simp at hkl; omega,?_,?_⟩,?_⟩
     ·rw [hpp,Option.map_map,hs3]
      congr 1
      funext l
      simp
     ·rw [hs3]
      refine hy'.mono fun y _ h => ?_
      rcases h with h | h
      ·exact h.1
      ·show w4.heap.size <= y; omega
     ·exact (hN6.tr hNq).tr' hFy fun y h => h.1
     ·show 100 - (n + 1) < 100 - n
      omega
  ·obtain ⟨kk,rfl⟩ : ∃ k',kp = k' + 1 := ⟨kp - 1,by simp at hkl; omega⟩
   rw [pPath,if_pos hth] at hpp
   simp only [Option.map_some] at hpp
   rw [hpp]
   dsimp only
   obtain ⟨l,hl0⟩ : ∃ l,l = pre ++ [t] := ⟨_,rfl⟩
   rw [<- hl0] at hsl ⊢
   have hN36 : Nw w.heap w6.heap := Nw.tr (a := w.heap) hN3 hN6
   have hle36 := hN36.le; have hle4 := hN3.le
   have hcS : CT O I (Sub OK w.heap.size w6.heap.size) w6.heap.size w6.drew.heap m K D σ δ := CT.sub (h := w.heap) hc hN36
   have hsl' : Sl w6.drew.heap (fun y => w.heap.size <= y /\ y < w6.heap.size) eI64 q n d l := Sl.mono (h := w6.heap) hsl fun y hy h => ⟨by have : w.drew.heap.size = w.heap.size := rfl; omega,hy⟩
   have hBb : Bk w6.drew.heap b rf.vs := hB3.nw hN6
   have hblt := hB3.lt
   have hbge : w.heap.size <= b := by simp only [drew_heap'] at *; omega
   have hb6 : b < w6.heap.size := by have := hN6.le; omega
   have hF6 : Fr OK w.heap w6.drew.heap := hN36.ok
   have hsz6 : w6.drew.heap.size = w6.heap.size := rfl
   rw [show onPtr (some (⟨gq,oq,none⟩ : Addr)) = onPtr q by rw [hq]]
   generalize w6.drew = w7 at *
   refine ⟨fun t w' => ∃ j : Nat,t = (j : Int) /\ j <= n /\ CT O I (Sub OK w.heap.size w6.heap.size) w6.heap.size w'.heap m K D { σ with pool := (l.take j).foldl pGive σ.pool } δ /\ Sl w'.heap (fun y => w.heap.size <= y /\ y < w6.heap.size) eI64 q n d l /\ Bk w'.heap b rf.vs /\ Fr (Sub OK w.heap.size w6.heap.size) w7.heap w'.heap,fun t _ => n - t.toNat,⟨0,rfl,Nat.zero_le _,hcS,hsl',hBb,Fr.refl _ _⟩,?_⟩
   rintro t2 w8 ⟨j,rfl,hj,hc8,hsl8,hb8,hF8⟩
   refine br_of (fun hB => ?_) (fun hB => ?_) <;> simp only [ZJ,ZK,ZL,ZM,ZN,ZO,ZP,ZQ,ZR] at hB
   ·refine chk_of (by simp; omega) ?_
    have hx : l[j]? = some (l[j]'(by rw [hsl8.len]; omega)) := List.getElem?_eq_getElem _
    generalize l[j]'(by rw [hsl8.len]; omega) = y at hx
    refine hsl8.idx1 hx ?_; intro g o2 _ hcell
    refine ⟨_,hcell,_,hc8.d0,?_⟩
    rw [onPtr_some]
    refine ⟨_,hc8.inv.c6,?_⟩
    obtain ⟨o3,ho3,hP3,back3⟩ := hc8.inv.pool
    refine (frame_Give_ok hP3 y).mono ?_; rintro _ w9 ⟨rfl,hP9,hF9⟩
    obtain ⟨hM9,hFo9⟩ := back3 _ _ hP9 hF9
    rw [wrap_id (by omega) (by omega)]
    refine ⟨_,rfl,⟨j + 1,rfl,by omega,?_,hsl8.fr hFo9 (fun z _ h => not_sub h.1 h.2) (fun _ _ h => h),hb8.fr hFo9 (not_sub hbge hb6),hF8.trans' hFo9⟩,by (first | omega | (dsimp only; omega))⟩
    have := hc8.to hM9 hFo9
    rw [take_succ_some hx,List.foldl_append]
    exact this
   ·obtain rfl : j = n := by omega
    rw [List.take_of_length_le (by rw [hsl8.len]; omega)] at hc8
    replace hc8 : CT O I (Sub OK w.heap.size w6.heap.size) w6.heap.size w8.drew.heap m K D { σ with pool := l.foldl pGive σ.pool } δ := hc8
    replace hb8 : Bk w8.drew.heap b rf.vs := hb8
    replace hF8 : Fr (Sub OK w.heap.size w6.heap.size) w7.heap w8.drew.heap := hF8
    rw [wv_eq]
    generalize w8.drew = wa at *
    refine ⟨rf.sender,by rw [hb8.cell]; rfl,?_⟩
    refine (act_under_ok hc8 (n := 0) hst).mono ?_; rintro _ _ ⟨rfl,nu,rfl⟩
    refine ⟨_,rfl,⟨by rw [dr_cell,hb8.cell]; rfl,trivial⟩,?_⟩
    refine (act_back_ok (w := dr wa nu) hc8 hQI hl hp rf.sender (dUnder δ 0)).mono ?_; rintro _ wb ⟨rfl,hcb,hFb⟩
    replace hFb : Fr (Sub OK w.heap.size w6.heap.size) wa.heap wb.heap := hFb
    rw [hrf.sender] at hcb
    have hF7b := hF8.trans' hFb
    have hFwb : Fr OK w.heap wb.heap := hF6.trans' (Inv.frsub (h0 := w.heap) hc.inv hF7b hle36)
    exact ⟨rfl,trivial,rfl,⟨Inv.unsub (h0 := w.heap) hc.inv hcb.inv hle36 hcb.inv.le,Dn.fr (h := w.heap) hc.dn hFwb⟩,hFwb⟩
 ·refine newB_i ?_; intro b w2 b_eq hB2 hN2 w2_sz; try simp only [drew_heap',dr_heap] at b_eq hN2
  have hc2 := hc.nw hN2
  refine ⟨⟨hc2.d6,hc2.inv.c6,hc2.d0,trivial⟩,?_⟩
  obtain ⟨o,ho,hP,_⟩ := hc2.inv.pool
  refine (frame_At_ok hP δ.x.home).mono ?_; rintro _ w1 ⟨rf,rfl,hrf,hN1⟩
  rw [<- hH] at hrf ⊢
  have hc1 := hc2.nw hN1
  refine ⟨_,_,_,_,_,_,_,_,_,_,_,_,_,rfl,⟨hc1.d0,trivial⟩,?_⟩
  have hB21 := hB2.nw hN1
  refine stores_i hB21 (by simp [sets_length]) ?_; intro w3 hB3 hF3 w3_sz; try simp only [drew_heap',dr_heap] at w3_sz hF3
  simp only [sets,ZH,ZI] at hB3
  have hN3 : Nw w.heap w3.heap := Nw.st (hN2.tr hN1) hF3 (by simp only [drew_heap'] at *; omega)
  refine ⟨trivial,?_⟩
  rw [join_eq,wv_eq]
  replace hN3 : Nw w.heap w3.drew.heap := hN3
  replace hB3 : Bk w3.drew.heap b rf.vs := hB3
  have hc3 := hc.nw hN3
  generalize w3.drew = w4 at *
  refine br_of (fun h5 => ?_) (fun h5 => ?_) <;> simp only [ZL,ZM] at h5
  ·rw [if_pos h5]; exact ⟨rfl,hc3,hN3.ok⟩
  rw [if_neg (show ¬ H.2 = false by rw [h5]; simp)]
  refine ⟨rf.serial,by rw [hB3.cell]; rfl,_,hc3.d0,_,hc3.d2,?_⟩
  rw [onPtr_some]
  refine chk_of (by simp; omega) ⟨_,hc3.inv.ckept (k := δ.f.toNat) (by omega),?_⟩
  refine br_of (fun h6 => ?_) (fun h6 => ?_) <;> simp only [ZL,ZM,ZJ,ZK] at h6
  ·rw [if_pos (by rw [<- hrf.serial]; exact h6)]; exact ⟨rfl,hc3,hN3.ok⟩
  rw [if_neg (by rw [<- hrf.serial]; exact fun h => h h6)]
  refine ⟨_,hc3.d2,?_⟩
  obtain ⟨r0,hr0⟩ : ∃ r,r = pPath σ.pool δ.x.home 24 δ.f := ⟨_,rfl⟩
  rw [<- hr0]
  refine newB_i ?_; intro b1 w5 b1_eq hB5 hN5 w5_sz; try simp only [drew_heap',dr_heap] at b1_eq hN5
  have hs5 : Sl w5.heap (fun y => w4.heap.size <= y) eI64 (some ⟨b1,0,none⟩) 1 1 [δ.f] := (Sl.of_blk (l := [δ.f]) (E := eI64) hB5 rfl rfl (by simp)).mono fun y _ h => by rw [<- h]; omega
  obtain ⟨f0,L0,hL0⟩ : ∃ f0 L0,L = f0 :: L0 := by
   cases L with
   | nil => have : δ.f < 0 := hL; omega
   | cons f0 L0 => exact ⟨f0,L0,rfl⟩
  have hlen24 := hL.len hn
  have e0 : δ.f = f0 := by rw [hL0] at hL; exact hL.1
  have hLc : ChainOf σ.pool (δ.f :: L0) δ.f := by rw [e0]; rw [hL0,e0] at hL; exact hL
  have hL1 : L = δ.f :: L0 := by rw [e0]; exact hL0
  refine ⟨fun q w' => ∃ (pre : List Int) (t : Int) (L2 : List Int) (kp : Nat),L = pre ++ t :: L2 /\ ChainOf σ.pool (t :: L2) t /\ r0 = (pPath σ.pool δ.x.home kp t).map (pre ++ ·) /\ (t :: L2).length <= kp /\ Sl w'.heap (fun y => w4.heap.size <= y) eI64 q.1 q.2.1 q.2.2 (pre ++ [t]) /\ Nw w4.heap w'.heap,fun q _ => 100 - q.2.1,⟨[],δ.f,L0,24,?_,?_,?_,?_,hs5,hN5⟩,?_⟩
  ·exact hL1
  ·exact hLc
  ·rw [hr0]; cases pPath σ.pool δ.x.home 24 δ.f <;> rfl
  ·rw [hL1] at hlen24; exact hlen24
  rintro ⟨q,n,d⟩ w6 ⟨pre,t,L2,kp,hL,hch,hpp,hkl,hsl,hN6⟩
  simp only at hsl
  have hnl := hsl.len
  simp only [List.length_append,List.length_cons,List.length_nil] at hnl
  have hpl : n <= 24 := by rw [hL] at hlen24; simp at hlen24; omega
  obtain ⟨_,hi,hch⟩ := hch
  rw [wv_eq]
  have ht1 : IntKind.wrap .i64 ((n : Int) - 1) = ((n - 1 : Nat) : Int) := by rw [wrap_id (by omega) (by omega)]; omega
  rw [ht1]
  have hgt : (pre ++ [t])[n - 1]? = some t := by rw [show n - 1 = pre.length by omega]; simp
  refine chk_of (by simp; omega) ?_
  obtain ⟨gq,oq,hq⟩ : ∃ g o,q = some ⟨g,o,none⟩ := by
   obtain ⟨g,pr,po,e,_⟩ := hsl.addr (i := 0) (by omega)
   exact ⟨g,_,e⟩
  have hcq : ∀ w' : World,Sl w'.heap (fun y => w4.heap.size <= y) eI64 q n d (pre ++ [t]) -> w'.cell? ⟨gq,oq + (n - 1) * 1,none⟩ = some (.int .i64 t) := fun w' h => by
   have := h.idx1 (K := fun g o => w'.cell? ⟨g,o + (n - 1) * 1,none⟩ = some (.int .i64 t)) hgt (fun g o _ h => h)
   rw [hq] at this
   exact this
  rw [show onPtr q = onPtr (some ⟨gq,oq,none⟩) by rw [hq],onPtr_some]
  have hc6 : CT O I OK n0 w6.drew.heap m K D σ δ := hc3.nw hN6
  refine ⟨t,hcq w6.drew hsl,_,hc6.d6,?_⟩
  refine br_of (fun hth => ?_) (fun hth => ?_) <;> simp only [ZL,ZM,ZJ,ZK] at hth
  ·have hc7 : CT O I OK n0 w6.drew.drew.heap m K D σ δ := hc6
   refine ⟨_,hc7.d0,?_⟩
   rw [onPtr_some]
   refine ⟨_,hc7.inv.c6,chk_of (by simp; omega) ?_⟩
   rw [onPtr_some]
   refine ⟨t,hcq w6.drew.drew hsl,?_,?_⟩
   ·obtain ⟨o,ho,hP,_⟩ := hc7.inv.pool
    refine (frame_At_ok hP t).mono ?_; rintro _ w9 ⟨rg,rfl,hrg,hN9⟩
    replace hN9 : Nw w6.heap w9.heap := hN9
    have hc9 : CT O I OK n0 w9.heap m K D σ δ := hc6.nw hN9
    refine ⟨_,_,_,_,_,_,_,_,_,_,_,_,_,rfl,⟨hc9.d0,trivial⟩,?_⟩
    refine newB_i ?_; intro b2 wa b2_eq hBa hNa wa_sz; try simp only [drew_heap',dr_heap] at b2_eq hNa
    have hca := hc9.nw hNa
    refine ⟨⟨hca.d0,trivial⟩,?_⟩
    refine stores_i hBa (by simp [sets_length]) ?_; intro wb hBb hFb wb_sz; try simp only [drew_heap',dr_heap] at wb_sz hFb
    simp only [sets,ZH,ZI] at hBb
    have hle9 := hN9.le
    have hNb : Nw w6.heap wb.heap := (hN9.tr hNa).st hFb (by omega)
    refine ⟨trivial,?_⟩
    have hsend : rg.sender = (σ.pool.fr t).sender := by rw [hrg.sender]; simp only [pAt,hi,if_true]
    refine ⟨rg.sender,by rw [hBb.cell]; rfl,?_⟩
    have hpx : (pAt σ.pool t).1.sender = rg.sender := by rw [hsend]; simp only [pAt,hi,if_true]
    obtain ⟨kk,rfl⟩ : ∃ k',kp = k' + 1 := ⟨kp - 1,by simp at hkl; omega⟩
    rw [pPath,if_neg hth,hpx] at hpp
    refine br_of (fun hneg => ?_) (fun hneg => ?_) <;> simp only [ZJ,ZK,ZL,ZM,ZN,ZO,ZP,ZQ,ZR] at hneg
    ·rw [if_pos hneg] at hpp
     simp only [Option.map_none] at hpp
     rw [hpp]
     exact ⟨rfl,hc3.nw (hN6.tr hNb),(hN3.tr (hN6.tr hNb)).ok⟩
    ·rw [if_neg (by omega)] at hpp
     refine ⟨rg.sender,by rw [hBb.cell]; rfl,?_⟩
     refine newB_i ?_; intro bz wz bz_eq hBz hNz wz_sz; try simp only [drew_heap',dr_heap] at bz_eq hNz
     obtain ⟨s,L3,hL2⟩ : ∃ s L3,L2 = s :: L3 := by
      cases L2 with
      | nil => have : (σ.pool.fr t).sender < 0 := hch; omega
      | cons s L3 => exact ⟨s,L3,rfl⟩
     subst hL2
     have hch' := hch
     obtain ⟨hs0,hs1,hs2⟩ := hch'
     have hs3 : s = rg.sender := by rw [hsend]; exact hs0.symm
     have hs4 : Sl wz.heap (fun y => y = bz) eI64 (some ⟨bz,0,none⟩) 1 1 [rg.sender] := (Sl.of_blk (l := [rg.sender]) (E := eI64) hBz rfl rfl (by simp)).mono fun _ _ h => h.symm
     have hNq := hNb.tr hNz
     refine append_r ty_int ((hsl.mono fun y hy h => (⟨h,hy⟩ : w4.heap.size <= y /\ y < w6.heap.size)).nw hNq) hs4 (by omega) ?_
     intro q' d' wy hy' hFy
     have hle6 := hN6.le; have hleq := hNq.le
     refine ⟨⟨pre ++ [t],s,L3,kk,by rw [hL]; simp,⟨rfl,hs1,hs2⟩,?_,by simp at hkl; omega,?_,?_⟩,?_⟩
     ·rw [hpp,Option.map_map,hs3]
      congr 1
      funext l
      simp
     ·rw [hs3]
      refine hy'.mono fun y _ h => ?_
      rcases h with h | h
      ·exact h.1
      ·show w4.heap.size <= y; omega
     ·exact (hN6.tr hNq).tr' hFy fun y h => h.1
     ·show 100 - (n + 1) < 100 - n
      omega
   ·refine newB_i ?_; intro b2 wa b2_eq hBa hNa wa_sz; try simp only [drew_heap',dr_heap] at b2_eq hNa
    replace hNa : Nw w6.heap wa.heap := hNa
    have hca : CT O I OK n0 wa.heap m K D σ δ := hc6.nw hNa
    refine ⟨⟨hcq wa (hsl.nw hNa),hca.inv.c6,hca.d0,trivial⟩,?_⟩
    obtain ⟨o,ho,hP,_⟩ := hca.inv.pool
    refine (frame_At_ok hP t).mono ?_; rintro _ w9 ⟨rg,rfl,hrg,hN9⟩
    have hc9 := hca.nw hN9
    refine ⟨_,_,_,_,_,_,_,_,_,_,_,_,_,rfl,⟨hc9.d0,trivial⟩,?_⟩
    have hBa9 := hBa.nw hN9
    refine stores_i hBa9 (by simp [sets_length]) ?_; intro wb hBb hFb wb_sz; try simp only [drew_heap',dr_heap] at wb_sz hFb
    simp only [sets,ZH,ZI] at hBb
    have hNb : Nw w6.heap wb.heap := Nw.st (hNa.tr hN9) hFb (by simp only [drew_heap'] at *; omega)
    refine ⟨trivial,?_⟩
    have hsend : rg.sender = (σ.pool.fr t).sender := by rw [hrg.sender]; simp only [pAt,hi,if_true]
    refine ⟨rg.sender,by rw [hBb.cell]; rfl,?_⟩
    have hpx : (pAt σ.pool t).1.sender = rg.sender := by rw [hsend]; simp only [pAt,hi,if_true]
    obtain ⟨kk,rfl⟩ : ∃ k',kp = k' + 1 := ⟨kp - 1,by simp at hkl; omega⟩
    rw [pPath,if_neg hth,hpx] at hpp
    refine br_of (fun hneg => ?_) (fun hneg => ?_) <;> simp only [ZJ,ZK,ZL,ZM,ZN,ZO,ZP,ZQ,ZR] at hneg
    ·rw [if_pos hneg] at hpp
     simp only [Option.map_none] at hpp
     rw [hpp]
     exact ⟨rfl,hc3.nw (hN6.tr hNb),(hN3.tr (hN6.tr hNb)).ok⟩
    ·rw [if_neg (by omega)] at hpp
     refine ⟨rg.sender,by rw [hBb.cell]; rfl,?_⟩
     refine newB_i ?_; intro bz wz bz_eq hBz hNz wz_sz; try simp only [drew_heap',dr_heap] at bz_eq hNz
     obtain ⟨s,L3,hL2⟩ : ∃ s L3,L2 = s :: L3 := by
      cases L2 with
      | nil => have : (σ.pool.fr t).sender < 0 := hch; omega
      | cons s L3 => exact ⟨s,L3,rfl⟩
     subst hL2
     have hch' := hch
     obtain ⟨hs0,hs1,hs2⟩ := hch'
     have hs3 : s = rg.sender := by rw [hsend]; exact hs0.symm
     have hs4 : Sl wz.heap (fun y => y = bz) eI64 (some ⟨bz,0,none⟩) 1 1 [rg.sender] := (Sl.of_blk (l := [rg.sender]) (E := eI64) hBz rfl rfl (by simp)).mono fun _ _ h => h.symm
     have hNq := hNb.tr hNz
     refine append_r ty_int ((hsl.mono fun y hy h => (⟨h,hy⟩ : w4.heap.size <= y /\ y < w6.heap.size)).nw hNq) hs4 (by omega) ?_
     intro q' d' wy hy' hFy
     have hle6 := hN6.le; have hleq := hNq.le
     refine ⟨⟨pre ++ [t],s,L3,kk,by rw [hL]; simp,⟨rfl,hs1,hs2⟩,?_,by simp at hkl; omega,?_,?_⟩,?_⟩
     ·rw [hpp,Option.map_map,hs3]
      congr 1
      funext l
      simp
     ·rw [hs3]
      refine hy'.mono fun y _ h => ?_
      rcases h with h | h
      ·exact h.1
      ·show w4.heap.size <= y; omega
     ·exact (hN6.tr hNq).tr' hFy fun y h => h.1
     ·show 100 - (n + 1) < 100 - n
      omega
  ·obtain ⟨kk,rfl⟩ : ∃ k',kp = k' + 1 := ⟨kp - 1,by simp at hkl; omega⟩
   rw [pPath,if_pos hth] at hpp
   simp only [Option.map_some] at hpp
   rw [hpp]
   dsimp only
   obtain ⟨l,hl0⟩ : ∃ l,l = pre ++ [t] := ⟨_,rfl⟩
   rw [<- hl0] at hsl ⊢
   have hN36 : Nw w.heap w6.heap := Nw.tr (a := w.heap) hN3 hN6
   have hle36 := hN36.le; have hle4 := hN3.le
   have hcS : CT O I (Sub OK w.heap.size w6.heap.size) w6.heap.size w6.drew.heap m K D σ δ := CT.sub (h := w.heap) hc hN36
   have hsl' : Sl w6.drew.heap (fun y => w.heap.size <= y /\ y < w6.heap.size) eI64 q n d l := Sl.mono (h := w6.heap) hsl fun y hy h => ⟨by have : w.drew.heap.size = w.heap.size := rfl; omega,hy⟩
   have hBb : Bk w6.drew.heap b rf.vs := hB3.nw hN6
   have hblt := hB3.lt
   have hbge : w.heap.size <= b := by simp only [drew_heap'] at *; omega
   have hb6 : b < w6.heap.size := by have := hN6.le; omega
   have hF6 : Fr OK w.heap w6.drew.heap := hN36.ok
   have hsz6 : w6.drew.heap.size = w6.heap.size := rfl
   rw [show onPtr (some (⟨gq,oq,none⟩ : Addr)) = onPtr q by rw [hq]]
   generalize w6.drew = w7 at *
   refine ⟨fun t w' => ∃ j : Nat,t = (j : Int) /\ j <= n /\ CT O I (Sub OK w.heap.size w6.heap.size) w6.heap.size w'.heap m K D { σ with pool := (l.take j).foldl pGive σ.pool } δ /\ Sl w'.heap (fun y => w.heap.size <= y /\ y < w6.heap.size) eI64 q n d l /\ Bk w'.heap b rf.vs /\ Fr (Sub OK w.heap.size w6.heap.size) w7.heap w'.heap,fun t _ => n - t.toNat,⟨0,rfl,Nat.zero_le _,hcS,hsl',hBb,Fr.refl _ _⟩,?_⟩
   rintro t2 w8 ⟨j,rfl,hj,hc8,hsl8,hb8,hF8⟩
   refine br_of (fun hB => ?_) (fun hB => ?_) <;> simp only [ZJ,ZK,ZL,ZM,ZN,ZO,ZP,ZQ,ZR] at hB
   ·refine chk_of (by simp; omega) ?_
    have hx : l[j]? = some (l[j]'(by rw [hsl8.len]; omega)) := List.getElem?_eq_getElem _
    generalize l[j]'(by rw [hsl8.len]; omega) = y at hx
    refine hsl8.idx1 hx ?_; intro g o2 _ hcell
    refine ⟨_,hcell,_,hc8.d0,?_⟩
    rw [onPtr_some]
    refine ⟨_,hc8.inv.c6,?_⟩
    obtain ⟨o3,ho3,hP3,back3⟩ := hc8.inv.pool
    refine (frame_Give_ok hP3 y).mono ?_; rintro _ w9 ⟨rfl,hP9,hF9⟩
    obtain ⟨hM9,hFo9⟩ := back3 _ _ hP9 hF9
    rw [wrap_id (by omega) (by omega)]
    refine ⟨_,rfl,⟨j + 1,rfl,by omega,?_,hsl8.fr hFo9 (fun z _ h => not_sub h.1 h.2) (fun _ _ h => h),hb8.fr hFo9 (not_sub hbge hb6),hF8.trans' hFo9⟩,by (first | omega | (dsimp only; omega))⟩
    have := hc8.to hM9 hFo9
    rw [take_succ_some hx,List.foldl_append]
    exact this
   ·obtain rfl : j = n := by omega
    rw [List.take_of_length_le (by rw [hsl8.len]; omega)] at hc8
    replace hc8 : CT O I (Sub OK w.heap.size w6.heap.size) w6.heap.size w8.drew.heap m K D { σ with pool := l.foldl pGive σ.pool } δ := hc8
    replace hb8 : Bk w8.drew.heap b rf.vs := hb8
    replace hF8 : Fr (Sub OK w.heap.size w6.heap.size) w7.heap w8.drew.heap := hF8
    rw [wv_eq]
    generalize w8.drew = wa at *
    refine ⟨rf.sender,by rw [hb8.cell]; rfl,?_⟩
    refine (act_under_ok hc8 (n := 0) hst).mono ?_; rintro _ _ ⟨rfl,nu,rfl⟩
    refine ⟨_,rfl,⟨by rw [dr_cell,hb8.cell]; rfl,trivial⟩,?_⟩
    refine (act_back_ok (w := dr wa nu) hc8 hQI hl hp rf.sender (dUnder δ 0)).mono ?_; rintro _ wb ⟨rfl,hcb,hFb⟩
    replace hFb : Fr (Sub OK w.heap.size w6.heap.size) wa.heap wb.heap := hFb
    rw [hrf.sender] at hcb
    have hF7b := hF8.trans' hFb
    have hFwb : Fr OK w.heap wb.heap := hF6.trans' (Inv.frsub (h0 := w.heap) hc.inv hF7b hle36)
    exact ⟨rfl,trivial,rfl,⟨Inv.unsub (h0 := w.heap) hc.inv hcb.inv hle36 hcb.inv.le,Dn.fr (h := w.heap) hc.dn hFwb⟩,hFwb⟩
end
end
end Go.Proofs.YtbedadcbbnmpkaaGreatDoor
