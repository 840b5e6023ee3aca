/- The row of ActAgain, and its tied card: two machines of one program, of stores of their own, do the same; a halted one does nothing more. No condition. -/
import Derived.Test.YtbedadcbbnmpkaaGreatDoorCards
import Derived.Test.YtbedadcbbnmpkaaGreatDoorTie
import Derived.ProofKit
import Derived.OpenShut
import Derived.Stop.Joined
import Derived.Lay
import Derived.LaidOnce
import Derived.SevenTiedAt
import Derived.Test.YtbedadcbbnmpkaaGreatDoorAk
set_option linter.unusedSimpArgs false
set_option linter.unusedVariables false
namespace Go.Proofs.YtbedadcbbnmpkaaGreatDoor
open Go Go.ChangeShapes Go.WideShapes Go.ChangeAt Go.RowKit
theorem keptBut_of {w w' : World} {may : MemPlace -> Prop} (hN : Nw w.heap w'.heap) (ha : Aft w w') : w.keptBut w' may := by
 refine ⟨ha.os,ha.out,fun i hi => ?_⟩
 rw [hN.eq i hi fun h => h]
 cases hb : w.heap[i]? with
 | none => simp
 | some o => cases o <;> simp
theorem cell_old {w w' : World} (hN : Nw w.heap w'.heap) {a : Addr} {v : Value} (h : w.cell? a = some v) : w'.cell? a = some v := by
 have hlt := cell_lt h
 rw [<- h]
 unfold World.cell?
 rw [hN.eq _ hlt fun h => h]
theorem law_own : ownKnob Tryz.prog.godebug = none := by kernel_rfl
theorem und_ints : Tryz.prog.underlying T.sl_int = some (.slice T.int) := by kernel_rfl
theorem und_int : Tryz.prog.underlying T.int = some (.int .i64) := by kernel_rfl
theorem und_bool : Tryz.prog.underlying T.bool = some .bool := by kernel_rfl
theorem cells_int : Tryz.prog.cellsOf T.int = 1 := by kernel_rfl
theorem law_params : Tryz.f3.params = #[T.sl_int] := by kernel_rfl
theorem law_results : Tryz.f3.resultTypes.toList = [T.bool] := by kernel_rfl
theorem law_run {w : World} {S : Nat -> Prop} {p : Option Addr} {n c : Nat} {l : List Int} (r : Rd w.heap S p n l) : _root_.Go.Calls Tryz.prog 3 #[.slice p n c] w fun e w' => e = .returned (.bool true) /\ Nw w.heap w'.heap /\ Aft w w' :=
 _root_.Go.Calls.mono (law21_ActAgain_ok (c := c) r) fun e w' h => ⟨h.1.1,h.1.2,h.2⟩
set_option maxRecDepth 100000 in
theorem law_lifted (os : Os) (started : os.Started) (H : Type) (enc : TypeId × Value -> H) :
  ReturnsInHanded {} Tryz.checked os 3 .any (fun w args => (Rows.actAgainSpec.pre enc Tryz.prog Tryz.f3 [] false w args /\ laidMetH Tryz.prog Rows.actAgainRow.laid w) /\ sizedMet enc Tryz.prog Tryz.f3 (OpenSpec.ofChange Rows.actAgainSpec) false w args)
   (Rows.actAgainSpec.post enc Tryz.prog Tryz.f3 false true false false) := by
 refine returnsInHanded_of_change_and (C := Tryz.checked) (X := fun w _ => laidMetH Tryz.prog Rows.actAgainRow.laid w) (fun _ _ _ hh h => h.of_heap hh) law_own started (by kernel_rfl) Tryz.func3
  (ChangeSpec.witness_shaped (enc := enc) (C := Tryz.checked) (os := os) (X := fun w _ => laidMetH Tryz.prog Rows.actAgainRow.laid w) false (World.laidAll Tryz.prog os Rows.actAgainRow.laid) #[.slice none 0 0] 8 (World.laidAll_os _ _ _)
   (World.shaped_of_ZipB (by kernel_rfl) (by kernel_rfl)) (by kernel_rfl) (by kernel_rfl) (by kernel_rfl)
   (by rw [MakeChecks.laidMetH_plain _ _ _ (by kernel_rfl)]; exact laidMet_laidAll _ (by kernel_rfl) (by kernel_rfl))) ?_
 intro W base args ds gs before hval0 hW _ _ hL _
 have hval : ∀ (j : Nat) t v,Tryz.f3.params[j]? = some t -> args[j]? = some v -> Value.okWide Tryz.prog W .any base t v := hval0
 have hW' := hW
 obtain ⟨p,q,hA0,hV,rfl,_,_⟩ := hW
 have hA : DataW.TrodAll enc Tryz.prog W 0 (fun _ => true) true Tryz.f3.params.toList args.toList ds p := hA0
 rw [law_params] at hA hval
 obtain ⟨v0,d0,rfl,rfl,h0⟩ := trodAll_one hA
 obtain ⟨rfl,rfl⟩ := trodVars_none hV
 obtain ⟨a0,len,cap,rfl⟩ := okWide_slice und_ints (hval 0 T.sl_int v0 rfl rfl)
 obtain ⟨fuel,hf⟩ := h0
 simp only [List.append_nil] at hW'
 have done : ∀ {pl : List MemPlace},(∀ W' : World,Nw W.heap W'.heap -> DataW.Trod enc Tryz.prog W' 0 (fun b => decide (b < W.heap.size)) true T.sl_int (.slice a0 len cap) d0 pl) -> (∃ (S : Nat -> Prop) (l : List Int),Rd W.heap S a0 len l) ->
   _root_.Go.Calls Tryz.prog 3 #[.slice a0 len cap] W fun e W' => ∃ v,e = .returned v /\ Rows.actAgainSpec.post enc Tryz.prog Tryz.f3 false true false false W #[.slice a0 len cap] v W' := by
  intro pl hread hrd
  obtain ⟨S,l,hr⟩ := hrd
  refine _root_.Go.Calls.mono (law_run (c := cap) hr) fun e W' hh => ?_
  obtain ⟨he,hN,ha⟩ := hh
  subst he
  exact ⟨_,rfl,_,_,_,[],pl,[],hW',trodAll_mk1 (shut_bool und_bool _),trodAll_mk1 (hread W' hN),rfl,keptBut_of hN ha,fun h => by cases h⟩
 rcases open_ints und_ints und_int cells_int hf with ⟨hcs,hx⟩ | ⟨a,len',cap',zs,hcs,hb,hl,hm,hz,hx,hcell,hwz⟩
 ·simp [Value.cells] at hcs
  obtain ⟨rfl,rfl,rfl⟩ := hcs
  simp only [Prod.mk.injEq] at hx
  obtain ⟨rfl,rfl⟩ := hx
  exact done (fun W' _ => shut_slice_nil und_ints) ⟨fun _ => True,[],rfl,by omega,fun h => absurd rfl h⟩
 ·simp [Value.cells] at hcs
  obtain ⟨rfl,rfl,rfl⟩ := hcs
  simp only [Prod.mk.injEq] at hx
  obtain ⟨rfl,rfl⟩ := hx
  simp only [if_true] at hz
  have hcap : cap <= 9223372036854775807 := by unfold maxLen at hm; omega
  refine done (pl := MemPlace.row a zs.length) (fun W' hN => ⟨2,?_⟩) ⟨fun _ => True,zs.take len,by simp; omega,by omega,fun h => ?_⟩
  ·refine shut_ints 0 und_ints und_int cells_int (Nat.zero_le _) hl hm ?_ (fun i hi => cell_old hN (hcell i hi)) hwz
   by_cases hc0 : cap = 0
   ·have : len = 0 := by omega
    rw [hz]; split <;> omega
   ·have hlt := cell_lt (hcell 0 (by omega))
    have : a.block < W.heap.size := by rw [block_add] at hlt; exact hlt
    rw [if_pos (by simpa using this)]; exact hz
  ·have h00 := hcell 0 (by omega)
   obtain ⟨b,off,spot⟩ := a
   have hspot : spot = none := by simpa [Addr.add] using World.cell?_spot h00
   subst hspot
   refine ⟨b,off,rfl,trivial,?_⟩
   have hex : ∃ cs ty fz,W.heap[b]? = some (.cells cs ty fz) := by
    unfold World.cell? at h00
    split at h00
    ·rename_i cs ty fz hbk; exact ⟨cs,ty,fz,by simpa [Addr.add] using hbk⟩
    ·cases h00
   obtain ⟨cs,ty,fz,hbk⟩ := hex
   refine ⟨cs,ty,fz,hbk,fun i hi => ?_⟩
   have hci := hcell i (by omega)
   unfold World.cell? at hci
   simp only [add_plain,hbk] at hci
   have e1 : (zs.take len).getD i 0 = zs.getD i 0 := by
    simp only [List.getD_eq_getElem?_getD]
    rw [List.getElem?_take_of_lt hi]
   rw [e1]
   simpa using hci
theorem actAgain_said : Rows.ActAgainSaid :=
 OpenClaim.holds_of_wide 3 Tryz.f3 rfl rfl rfl rfl rfl rfl rfl ⟨rfl,rfl,rfl,rfl,rfl⟩ rfl rfl rfl rfl rfl (by kernel_rfl) Tryz.func3 (by kernel_rfl)
  (of_decide_eq_true (by kernel_rfl)) (by unfold Func.isWrapper; first | (rw [if_pos (by decide +kernel)]; kernel_rfl) | (rw [if_neg (by decide +kernel)]; exact ⟨rfl,rfl⟩))
  (fun os started H enc _ => law_lifted os started H enc)
theorem law_plain (f : FuncId) (fn : Func) (hf : Tryz.pinned.checked.prog.funcNamed "treadwheel/treadwheellaw21.ActAgain" = some f) (hfn : Tryz.pinned.checked.prog.funcs[f]? = some fn) :
  false = Tryz.pinned.checked.prog.looks [] /\ ∀ (j : Nat) t,fn.params[j]? = some t -> Tryz.pinned.checked.prog.wantsStandIn t = false := by
 obtain rfl : f = 3 := Option.some.inj ((show Tryz.prog.funcNamed "treadwheel/treadwheellaw21.ActAgain" = some 3 by kernel_rfl).symm.trans hf) |>.symm
 obtain rfl : fn = Tryz.f3 := (Option.some.inj (Tryz.func3.symm.trans hfn)).symm
 refine ⟨by kernel_rfl,fun j t ht => ?_⟩
 rw [law_params] at ht
 obtain rfl : t = T.sl_int := by simpa using Array.mem_of_getElem? ht
 exact (show Tryz.prog.wantsStandIn T.sl_int = false by kernel_rfl)
theorem actAgain_card : Rows.ActAgainCardSaid :=
 Claim7.holds_tied_plain_at .later [] _ _ _ _ actAgain_said (fun _ h => by cases h) (by kernel_rfl) (fun _ h => by cases h) actAgain_row_tie rfl ⟨rfl,rfl⟩ (by kernel_rfl) rfl law_plain (by kernel_rfl)
end Go.Proofs.YtbedadcbbnmpkaaGreatDoor
