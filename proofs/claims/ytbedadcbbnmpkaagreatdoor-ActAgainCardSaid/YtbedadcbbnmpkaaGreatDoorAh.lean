/- Part 8 of what the proof rests on: SpMach, SpAct1, SpAct2, SpAct3, SpAct4, SpAct5. No condition. -/
import Derived.Test.YtbedadcbbnmpkaaGreatDoorAg
set_option linter.unusedSimpArgs false
set_option linter.unusedVariables false
namespace Go.Proofs.YtbedadcbbnmpkaaGreatDoor
open Go Vc
section
structure MK where
 c : CUnit
 st : TypeId
 s : Value
 pb : Nat
 qb : Nat
 cb : Nat
 dh : Hd
structure TM (α : Type) where
 u : TUnit
 s : α
 pool : TPool
 queue : TQueue
 cache : TCache
 dicts : List TDict
 top : List Int
 kept : List Int
 copied : List Int
 events : List TEvent
 input : List Int
 halted : Bool
 clock : Int
 looks : Int
 why : Int
def mcells {α : Type} (K : MK) (σ : TM α) (ev inp : Hd) : List Value :=
 [.slice K.c.names.p K.c.names.n K.c.names.c,.slice K.c.classes.p K.c.classes.n K.c.classes.c,.slice K.c.methods.p K.c.methods.n K.c.methods.c,.slice K.c.objects.p K.c.objects.n K.c.objects.c,.int .i64 K.c.main,
  .iface K.st K.s,.pointer (some ⟨K.pb,0,none⟩),.pointer (some ⟨K.qb,0,none⟩),.pointer (some ⟨K.cb,0,none⟩),.slice K.dh.p K.dh.n K.dh.c] ++
 (σ.top.map (Value.int .i64) ++ (σ.kept.map (Value.int .i64) ++ (σ.copied.map (Value.int .i64) ++
 [.slice ev.p ev.n ev.c,.slice inp.p inp.n inp.c,.bool σ.halted,.int .i64 σ.clock,.int .i64 σ.looks,.int .i64 σ.why])))
abbrev ePtr : Enc Nat := E1 (fun b => Value.pointer (some ⟨b,0,none⟩)) fun _ => rfl
section
variable {α : Type} (I : Hp -> (Nat -> Prop) -> Value -> α -> Prop)
structure MC (h : Hp) (ok : Nat -> Prop) (m : Nat) (K : MK) (σ : TM α) (ev inp : Hd) (κ : Nat -> Nat) : Prop where
 bk : Bk h m (mcells K σ ev inp)
 l1 : σ.top.length = 6
 l2 : σ.kept.length = 24
 l3 : σ.copied.length = 24
 okm : ok m
 km : κ m = 0
 pool : IsPool h (fun y => ok y /\ κ y = 1) K.pb σ.pool
 queue : IsQueue h (fun y => ok y /\ κ y = 2) K.qb σ.queue
 cache : IsCache h K.cb σ.cache /\ ok K.cb /\ κ K.cb = 3
 store : I h (fun y => ok y /\ κ y = 4) K.s σ.s
 unit : IsUnit h (fun y => ok y /\ κ y = 5) K.c σ.u
 dicts : ∃ bs : List Nat,SlH h (fun y => ok y /\ κ y = 6) ePtr K.dh bs /\ All2 (fun b D => IsDict h b D /\ ok b /\ κ b = 6) bs σ.dicts
 evs : SlH h (fun y => ok y /\ κ y = 7) eEvent ev σ.events
 inp : SlH h (fun y => ok y /\ κ y = 8) eU32 inp σ.input
def IsM (h : Hp) (ok : Nat -> Prop) (m : Nat) (K : MK) (σ : TM α) : Prop := ∃ ev inp κ,MC I h ok m K σ ev inp κ
end
theorem IsCache.ltb {h : Hp} {b : Nat} {C : TCache} (hc : IsCache h b C) : b < h.size := hc.blk.lt
theorem IsDict.ltb {h : Hp} {b : Nat} {D : TDict} (hc : IsDict h b D) : b < h.size := hc.blk.lt
section
variable {α : Type} {I : Hp -> (Nat -> Prop) -> Value -> α -> Prop} {O : StoreOps α} {h h' : Hp} {ok ok' S : Nat -> Prop} {m : Nat} {K : MK} {σ σ' : TM α} {ev inp ev' inp' : Hd} {κ : Nat -> Nat}
theorem MC.fr (sp : StoreSp O K.st I) (hp : MC I h ok m K σ ev inp κ) (hf : Fr S h h') (hd : ∀ y,y < h.size -> ok y -> ¬ S y) (hok : ∀ y,y < h.size -> ok y -> ok' y) : MC I h' ok' m K σ ev inp κ := by
 have d2 : ∀ {j : Nat} (y : Nat),y < h.size -> (ok y /\ κ y = j) -> ¬ S y := fun y hy h => hd y hy h.1
 have o2 : ∀ {j : Nat} (y : Nat),y < h.size -> (ok y /\ κ y = j) -> (ok' y /\ κ y = j) := fun y hy h => ⟨hok y hy h.1,h.2⟩
 obtain ⟨bs,hb1,hb2⟩ := hp.dicts
 refine ⟨hp.bk.fr hf (hd _ hp.bk.lt hp.okm),hp.l1,hp.l2,hp.l3,hok _ hp.bk.lt hp.okm,hp.km,hp.pool.fr hf d2 o2,hp.queue.fr hf d2 o2,?_,sp.fr hp.store hf d2 o2,hp.unit.fr hf d2 o2,⟨bs,hb1.fr hf d2 o2,hb2.mono fun b D hr => ?_⟩,hp.evs.fr hf d2 o2,hp.inp.fr hf d2 o2⟩
 ·have := hp.cache.1.ltb
  exact ⟨hp.cache.1.fr hf (hd _ this hp.cache.2.1),hok _ this hp.cache.2.1,hp.cache.2.2⟩
 ·have := hr.1.ltb
  exact ⟨hr.1.fr hf (hd _ this hr.2.1),hok _ this hr.2.1,hr.2.2⟩
theorem MC.toM (hp : MC I h ok m K σ ev inp κ) : IsM I h ok m K σ := ⟨ev,inp,κ,hp⟩
theorem MC.upd (sp : StoreSp O K.st I) (hp : MC I h ok m K σ ev inp κ) (t : Nat) (hf : Fr (fun y => ok y /\ (κ y = t \/ κ y = 0)) h h') (up : ∀ y,h.size <= y -> ok y)
  (hB : Bk h' m (mcells K σ' ev' inp')) (l1 : σ'.top.length = 6) (l2 : σ'.kept.length = 24) (l3 : σ'.copied.length = 24)
  (h1 : (t ≠ 1 /\ σ'.pool = σ.pool) \/ IsPool h' (fun y => ok y /\ ret κ h.size t y = 1) K.pb σ'.pool)
  (h2 : (t ≠ 2 /\ σ'.queue = σ.queue) \/ IsQueue h' (fun y => ok y /\ ret κ h.size t y = 2) K.qb σ'.queue)
  (h3 : (t ≠ 3 /\ σ'.cache = σ.cache) \/ IsCache h' K.cb σ'.cache)
  (h4 : (t ≠ 4 /\ σ'.s = σ.s) \/ I h' (fun y => ok y /\ ret κ h.size t y = 4) K.s σ'.s)
  (h5 : t ≠ 5 /\ σ'.u = σ.u) (h6 : t ≠ 6 /\ σ'.dicts = σ.dicts)
  (h7 : (t ≠ 7 /\ ev' = ev /\ σ'.events = σ.events) \/ SlH h' (fun y => ok y /\ ret κ h.size t y = 7) eEvent ev' σ'.events)
  (h8 : (t ≠ 8 /\ inp' = inp /\ σ'.input = σ.input) \/ SlH h' (fun y => ok y /\ ret κ h.size t y = 8) eU32 inp' σ'.input) : MC I h' ok m K σ' ev' inp' (ret κ h.size t) := by
 have d2 : ∀ {j : Nat},t ≠ j -> j ≠ 0 -> ∀ (y : Nat),y < h.size -> (ok y /\ κ y = j) -> ¬ (ok y /\ (κ y = t \/ κ y = 0)) := fun ht hj y hy h e => by have := h.2; have := e.2; omega
 have o2 : ∀ {j : Nat} (y : Nat),y < h.size -> (ok y /\ κ y = j) -> (ok y /\ ret κ h.size t y = j) := fun y hy h => ⟨h.1,by rw [ret_lt hy]; exact h.2⟩
 obtain ⟨bs,hb1,hb2⟩ := hp.dicts
 have hc := hp.cache.1.ltb
 refine ⟨hB,l1,l2,l3,hp.okm,by rw [ret_lt hp.bk.lt]; exact hp.km,?_,?_,⟨?_,hp.cache.2.1,by rw [ret_lt hc]; exact hp.cache.2.2⟩,?_,?_,⟨bs,?_,?_⟩,?_,?_⟩
 ·rcases h1 with ⟨ht,e⟩ | h1
  ·rw [e]; exact hp.pool.fr hf (d2 ht (by omega)) o2
  ·exact h1
 ·rcases h2 with ⟨ht,e⟩ | h1
  ·rw [e]; exact hp.queue.fr hf (d2 ht (by omega)) o2
  ·exact h1
 ·rcases h3 with ⟨ht,e⟩ | h1
  ·rw [e]; exact hp.cache.1.fr hf (d2 ht (by omega) _ hc hp.cache.2)
  ·exact h1
 ·rcases h4 with ⟨ht,e⟩ | h1
  ·rw [e]; exact sp.fr hp.store hf (d2 ht (by omega)) o2
  ·exact h1
 ·rw [h5.2]; exact hp.unit.fr hf (d2 h5.1 (by omega)) o2
 ·exact hb1.fr hf (d2 h6.1 (by omega)) o2
 ·rw [h6.2]
  refine hb2.mono fun b D hr => ?_
  have := hr.1.ltb
  exact ⟨hr.1.fr hf (d2 h6.1 (by omega) _ this hr.2),hr.2.1,by rw [ret_lt this]; exact hr.2.2⟩
 ·rcases h7 with ⟨ht,e,e'⟩ | h1
  ·rw [e,e']; exact hp.evs.fr hf (d2 ht (by omega)) o2
  ·exact h1
 ·rcases h8 with ⟨ht,e,e'⟩ | h1
  ·rw [e,e']; exact hp.inp.fr hf (d2 ht (by omega)) o2
  ·exact h1
end
structure Inv {α : Type} (O : StoreOps α) (I : Hp -> (Nat -> Prop) -> Value -> α -> Prop) (OK : Nat -> Prop) (n0 : Nat) (h : Hp) (m : Nat) (K : MK) (σ : TM α) : Prop where
 sp : StoreSp O K.st I
 le : n0 <= h.size
 up : ∀ y,n0 <= y -> OK y
 mc : IsM I h OK m K σ
theorem old_ret {ok : Nat -> Prop} {h : Hp} {κ : Nat -> Nat} {t y : Nat} (up : ∀ y,h.size <= y -> ok y) (hy : Old (fun y => ok y /\ κ y = t) h y) : ok y /\ ret κ h.size t y = t := by
 by_cases h1 : y < h.size
 ·rcases hy with hy | hy
  ·exact ⟨hy.1,by rw [ret_lt h1]; exact hy.2⟩
  ·omega
 ·exact ⟨up y (by omega),ret_ge (by omega)⟩
section
variable {α : Type} {O : StoreOps α} {I : Hp -> (Nat -> Prop) -> Value -> α -> Prop} {OK : Nat -> Prop} {n0 : Nat} {m : Nat} {K : MK} {σ : TM α}
theorem Inv.ups {h : Hp} (hM : Inv O I OK n0 h m K σ) : ∀ y,h.size <= y -> OK y := fun y hy => hM.up y (Nat.le_trans hM.le hy)
theorem Inv.nw {h h' : Hp} (hM : Inv O I OK n0 h m K σ) (hf : Nw h h') : Inv O I OK n0 h' m K σ := by
 obtain ⟨ev,inp,κ,hp⟩ := hM.mc
 exact ⟨hM.sp,Nat.le_trans hM.le hf.le,hM.up,ev,inp,κ,hp.fr hM.sp hf (fun _ _ _ h => h) fun _ _ h => h⟩
theorem Inv.pool {h : Hp} (hM : Inv O I OK n0 h m K σ) : ∃ o : Nat -> Prop,(∀ y,o y -> OK y) /\ IsPool h o K.pb σ.pool /\ ∀ (h' : Hp) (x : TPool),IsPool h' (Old o h) K.pb x -> Fr o h h' -> Inv O I OK n0 h' m K { σ with pool := x } /\ Fr OK h h' := by
 obtain ⟨ev,inp,κ,hp⟩ := hM.mc
 refine ⟨_,fun _ h => h.1,hp.pool,fun h' x hx hf => ?_⟩
 have hc := hp.upd (σ' := { σ with pool := x }) hM.sp 1 (hf.mono fun _ _ h => ⟨h.1,.inl h.2⟩) hM.ups (hp.bk.fr hf fun h => by have := h.2; have := hp.km; omega) hp.l1 hp.l2 hp.l3 (.inr (hx.fr (Fr.refl (fun _ => False) _) (fun _ _ _ h => h) fun _ _ hy => old_ret hM.ups hy)) (.inl ⟨by omega,rfl⟩) (.inl ⟨by omega,rfl⟩) (.inl ⟨by omega,rfl⟩) ⟨by omega,rfl⟩ ⟨by omega,rfl⟩ (.inl ⟨by omega,rfl,rfl⟩) (.inl ⟨by omega,rfl,rfl⟩)
 exact ⟨⟨hM.sp,Nat.le_trans hM.le hf.le,hM.up,hc.toM⟩,hf.mono fun _ _ h => h.1⟩
theorem Inv.queue {h : Hp} (hM : Inv O I OK n0 h m K σ) : ∃ o : Nat -> Prop,(∀ y,o y -> OK y) /\ IsQueue h o K.qb σ.queue /\ ∀ (h' : Hp) (x : TQueue),IsQueue h' (Old o h) K.qb x -> Fr o h h' -> Inv O I OK n0 h' m K { σ with queue := x } /\ Fr OK h h' := by
 obtain ⟨ev,inp,κ,hp⟩ := hM.mc
 refine ⟨_,fun _ h => h.1,hp.queue,fun h' x hx hf => ?_⟩
 have hc := hp.upd (σ' := { σ with queue := x }) hM.sp 2 (hf.mono fun _ _ h => ⟨h.1,.inl h.2⟩) hM.ups (hp.bk.fr hf fun h => by have := h.2; have := hp.km; omega) hp.l1 hp.l2 hp.l3 (.inl ⟨by omega,rfl⟩) (.inr (hx.fr (Fr.refl (fun _ => False) _) (fun _ _ _ h => h) fun _ _ hy => old_ret hM.ups hy)) (.inl ⟨by omega,rfl⟩) (.inl ⟨by omega,rfl⟩) ⟨by omega,rfl⟩ ⟨by omega,rfl⟩ (.inl ⟨by omega,rfl,rfl⟩) (.inl ⟨by omega,rfl,rfl⟩)
 exact ⟨⟨hM.sp,Nat.le_trans hM.le hf.le,hM.up,hc.toM⟩,hf.mono fun _ _ h => h.1⟩
theorem Inv.cache {h : Hp} (hM : Inv O I OK n0 h m K σ) : IsCache h K.cb σ.cache /\ ∀ (h' : Hp) (x : TCache),IsCache h' K.cb x -> Fr (· = K.cb) h h' -> Inv O I OK n0 h' m K { σ with cache := x } /\ Fr OK h h' := by
 obtain ⟨ev,inp,κ,hp⟩ := hM.mc
 have hf' : ∀ {h'},Fr (· = K.cb) h h' -> Fr (fun y => OK y /\ κ y = 3) h h' := fun hf => hf.mono fun y _ e => by rw [e]; exact hp.cache.2
 refine ⟨hp.cache.1,fun h' x hx hf => ?_⟩
 have hc := hp.upd (σ' := { σ with cache := x }) hM.sp 3 ((hf' hf).mono fun _ _ h => ⟨h.1,.inl h.2⟩) hM.ups (hp.bk.fr (hf' hf) fun h => by have := h.2; have := hp.km; omega) hp.l1 hp.l2 hp.l3 (.inl ⟨by omega,rfl⟩) (.inl ⟨by omega,rfl⟩) (.inr hx) (.inl ⟨by omega,rfl⟩) ⟨by omega,rfl⟩ ⟨by omega,rfl⟩ (.inl ⟨by omega,rfl,rfl⟩) (.inl ⟨by omega,rfl,rfl⟩)
 exact ⟨⟨hM.sp,Nat.le_trans hM.le hf.le,hM.up,hc.toM⟩,(hf' hf).mono fun _ _ h => h.1⟩
theorem Inv.store {h : Hp} (hM : Inv O I OK n0 h m K σ) : ∃ o : Nat -> Prop,(∀ y,o y -> OK y) /\ I h o K.s σ.s /\ ∀ (h' : Hp) (x : α),I h' (Old o h) K.s x -> Fr o h h' -> Inv O I OK n0 h' m K { σ with s := x } /\ Fr OK h h' := by
 obtain ⟨ev,inp,κ,hp⟩ := hM.mc
 refine ⟨_,fun _ h => h.1,hp.store,fun h' x hx hf => ?_⟩
 have hc := hp.upd (σ' := { σ with s := x }) hM.sp 4 (hf.mono fun _ _ h => ⟨h.1,.inl h.2⟩) hM.ups (hp.bk.fr hf fun h => by have := h.2; have := hp.km; omega) hp.l1 hp.l2 hp.l3 (.inl ⟨by omega,rfl⟩) (.inl ⟨by omega,rfl⟩) (.inl ⟨by omega,rfl⟩) (.inr (hM.sp.fr hx (Fr.refl (fun _ => False) _) (fun _ _ _ h => h) fun _ _ hy => old_ret hM.ups hy)) ⟨by omega,rfl⟩ ⟨by omega,rfl⟩ (.inl ⟨by omega,rfl,rfl⟩) (.inl ⟨by omega,rfl,rfl⟩)
 exact ⟨⟨hM.sp,Nat.le_trans hM.le hf.le,hM.up,hc.toM⟩,hf.mono fun _ _ h => h.1⟩
structure SameP (σ σ' : TM α) : Prop where
 u : σ'.u = σ.u
 s : σ'.s = σ.s
 pool : σ'.pool = σ.pool
 queue : σ'.queue = σ.queue
 cache : σ'.cache = σ.cache
 dicts : σ'.dicts = σ.dicts
 events : σ'.events = σ.events
 input : σ'.input = σ.input
theorem Inv.cells {h : Hp} (hM : Inv O I OK n0 h m K σ) : ∃ ev inp,Bk h m (mcells K σ ev inp) /\ σ.top.length = 6 /\ σ.kept.length = 24 /\ σ.copied.length = 24 /\ ∀ (h' : Hp) (σ' : TM α),Bk h' m (mcells K σ' ev inp) -> Fr (· = m) h h' -> σ'.top.length = 6 -> σ'.kept.length = 24 -> σ'.copied.length = 24 -> SameP σ σ' -> Inv O I OK n0 h' m K σ' /\ Fr OK h h' := by
 obtain ⟨ev,inp,κ,hp⟩ := hM.mc
 refine ⟨ev,inp,hp.bk,hp.l1,hp.l2,hp.l3,fun h' σ' hB hf l1 l2 l3 hs => ?_⟩
 have hc := hp.upd (σ' := σ') hM.sp 100 (hf.mono fun y _ e => by rw [e]; exact ⟨hp.okm,.inr hp.km⟩) hM.ups hB l1 l2 l3 (.inl ⟨by omega,hs.pool⟩) (.inl ⟨by omega,hs.queue⟩) (.inl ⟨by omega,hs.cache⟩) (.inl ⟨by omega,hs.s⟩) ⟨by omega,hs.u⟩ ⟨by omega,hs.dicts⟩ (.inl ⟨by omega,rfl,hs.events⟩) (.inl ⟨by omega,rfl,hs.input⟩)
 exact ⟨⟨hM.sp,Nat.le_trans hM.le hf.le,hM.up,hc.toM⟩,hf.mono fun y _ e => by rw [e]; exact hp.okm⟩
section
variable {ev inp : Hd}
theorem mc_len (l1 : σ.top.length = 6) (l2 : σ.kept.length = 24) (l3 : σ.copied.length = 24) : (mcells K σ ev inp).length = 70 := by simp [mcells,l1,l2,l3]
theorem mc_lo {k : Nat} (hk : k < 10) : (mcells K σ ev inp)[k]? = ([.slice K.c.names.p K.c.names.n K.c.names.c,.slice K.c.classes.p K.c.classes.n K.c.classes.c,.slice K.c.methods.p K.c.methods.n K.c.methods.c,.slice K.c.objects.p K.c.objects.n K.c.objects.c,.int .i64 K.c.main,
  .iface K.st K.s,.pointer (some ⟨K.pb,0,none⟩),.pointer (some ⟨K.qb,0,none⟩),.pointer (some ⟨K.cb,0,none⟩),.slice K.dh.p K.dh.n K.dh.c] : List Value)[k]? := by
 rw [mcells,app_getl (by simpa using hk)]
theorem mc_top {k : Nat} (l1 : σ.top.length = 6) (hk : k < 6) : (mcells K σ ev inp)[10 + k * 1]? = some (.int .i64 (σ.top.getD k 0)) := by
 rw [mcells,app_get (n := 10) rfl,Nat.mul_one,app_getl (by simpa [l1] using hk),List.getElem?_map,getD_some (d := 0) (by omega)]; rfl
theorem mc_kept {k : Nat} (l1 : σ.top.length = 6) (l2 : σ.kept.length = 24) (hk : k < 24) : (mcells K σ ev inp)[16 + k * 1]? = some (.int .i64 (σ.kept.getD k 0)) := by
 rw [mcells,show 16 + k * 1 = 10 + (6 + k) by omega,app_get (n := 10) rfl,app_get (by simpa using l1),app_getl (by simpa [l2] using hk),List.getElem?_map,getD_some (d := 0) (by omega)]; rfl
theorem mc_copied {k : Nat} (l1 : σ.top.length = 6) (l2 : σ.kept.length = 24) (l3 : σ.copied.length = 24) (hk : k < 24) : (mcells K σ ev inp)[40 + k * 1]? = some (.int .i64 (σ.copied.getD k 0)) := by
 rw [mcells,show 40 + k * 1 = 10 + (6 + (24 + k)) by omega,app_get (n := 10) rfl,app_get (by simpa using l1),app_get (by simpa using l2),app_getl (by simpa [l3] using hk),List.getElem?_map,getD_some (d := 0) (by omega)]; rfl
theorem mc_hi {k : Nat} (l1 : σ.top.length = 6) (l2 : σ.kept.length = 24) (l3 : σ.copied.length = 24) : (mcells K σ ev inp)[64 + k]? = ([.slice ev.p ev.n ev.c,.slice inp.p inp.n inp.c,.bool σ.halted,.int .i64 σ.clock,.int .i64 σ.looks,.int .i64 σ.why] : List Value)[k]? := by
 rw [mcells,show 64 + k = 10 + (6 + (24 + (24 + k))) by omega,app_get (n := 10) rfl,app_get (by simpa using l1),app_get (by simpa using l2),app_get (by simpa using l3)]
theorem ms_top {k : Nat} {v : Int} (l1 : σ.top.length = 6) (hk : k < 6) : sets (mcells K σ ev inp) (10 + k * 1) [.int .i64 v] = mcells K { σ with top := σ.top.set k v } ev inp := by
 simp only [sets,mcells]
 rw [app_set (n := 10) rfl,Nat.mul_one,app_setl (by simpa [l1] using hk),List.map_set]
theorem ms_kept {k : Nat} {v : Int} (l1 : σ.top.length = 6) (l2 : σ.kept.length = 24) (hk : k < 24) : sets (mcells K σ ev inp) (16 + k * 1) [.int .i64 v] = mcells K { σ with kept := σ.kept.set k v } ev inp := by
 simp only [sets,mcells]
 rw [show 16 + k * 1 = 10 + (6 + k) by omega,app_set (n := 10) rfl,app_set (by simpa using l1),app_setl (by simpa [l2] using hk),List.map_set]
theorem ms_copied {k : Nat} {v : Int} (l1 : σ.top.length = 6) (l2 : σ.kept.length = 24) (l3 : σ.copied.length = 24) (hk : k < 24) : sets (mcells K σ ev inp) (40 + k * 1) [.int .i64 v] = mcells K { σ with copied := σ.copied.set k v } ev inp := by
 simp only [sets,mcells]
 rw [show 40 + k * 1 = 10 + (6 + (24 + k)) by omega,app_set (n := 10) rfl,app_set (by simpa using l1),app_set (by simpa using l2),app_setl (by simpa [l3] using hk),List.map_set]
theorem ms_hi {k : Nat} {v : Value} (l1 : σ.top.length = 6) (l2 : σ.kept.length = 24) (l3 : σ.copied.length = 24) : (mcells K σ ev inp).set (64 + k) v = [.slice K.c.names.p K.c.names.n K.c.names.c,.slice K.c.classes.p K.c.classes.n K.c.classes.c,.slice K.c.methods.p K.c.methods.n K.c.methods.c,.slice K.c.objects.p K.c.objects.n K.c.objects.c,.int .i64 K.c.main,
  .iface K.st K.s,.pointer (some ⟨K.pb,0,none⟩),.pointer (some ⟨K.qb,0,none⟩),.pointer (some ⟨K.cb,0,none⟩),.slice K.dh.p K.dh.n K.dh.c] ++
 (σ.top.map (Value.int .i64) ++ (σ.kept.map (Value.int .i64) ++ (σ.copied.map (Value.int .i64) ++
 ([.slice ev.p ev.n ev.c,.slice inp.p inp.n inp.c,.bool σ.halted,.int .i64 σ.clock,.int .i64 σ.looks,.int .i64 σ.why] : List Value).set k v))) := by
 rw [mcells,show 64 + k = 10 + (6 + (24 + (24 + k))) by omega,app_set (n := 10) rfl,app_set (by simpa using l1),app_set (by simpa using l2),app_set (by simpa using l3)]
end
variable {w : World}
theorem Inv.mlt (hM : Inv O I OK n0 w.heap m K σ) : m < w.heap.size := by
 obtain ⟨ev,inp,hB,_⟩ := hM.cells; exact hB.lt
theorem Inv.c0 (hM : Inv O I OK n0 w.heap m K σ) : w.cell? ⟨m,0,none⟩ = some (.slice K.c.names.p K.c.names.n K.c.names.c) := by
 obtain ⟨ev,inp,hB,_⟩ := hM.cells; rw [hB.cell,mc_lo (by omega)]; rfl
theorem Inv.c1 (hM : Inv O I OK n0 w.heap m K σ) : w.cell? ⟨m,1,none⟩ = some (.slice K.c.classes.p K.c.classes.n K.c.classes.c) := by
 obtain ⟨ev,inp,hB,_⟩ := hM.cells; rw [hB.cell,mc_lo (by omega)]; rfl
theorem Inv.c2 (hM : Inv O I OK n0 w.heap m K σ) : w.cell? ⟨m,2,none⟩ = some (.slice K.c.methods.p K.c.methods.n K.c.methods.c) := by
 obtain ⟨ev,inp,hB,_⟩ := hM.cells; rw [hB.cell,mc_lo (by omega)]; rfl
theorem Inv.c5 (hM : Inv O I OK n0 w.heap m K σ) : w.cell? ⟨m,5,none⟩ = some (.iface K.st K.s) := by
 obtain ⟨ev,inp,hB,_⟩ := hM.cells; rw [hB.cell,mc_lo (by omega)]; rfl
theorem Inv.c6 (hM : Inv O I OK n0 w.heap m K σ) : w.cell? ⟨m,6,none⟩ = some (.pointer (some ⟨K.pb,0,none⟩)) := by
 obtain ⟨ev,inp,hB,_⟩ := hM.cells; rw [hB.cell,mc_lo (by omega)]; rfl
theorem Inv.c7 (hM : Inv O I OK n0 w.heap m K σ) : w.cell? ⟨m,7,none⟩ = some (.pointer (some ⟨K.qb,0,none⟩)) := by
 obtain ⟨ev,inp,hB,_⟩ := hM.cells; rw [hB.cell,mc_lo (by omega)]; rfl
theorem Inv.c8 (hM : Inv O I OK n0 w.heap m K σ) : w.cell? ⟨m,8,none⟩ = some (.pointer (some ⟨K.cb,0,none⟩)) := by
 obtain ⟨ev,inp,hB,_⟩ := hM.cells; rw [hB.cell,mc_lo (by omega)]; rfl
theorem Inv.c9 (hM : Inv O I OK n0 w.heap m K σ) : w.cell? ⟨m,9,none⟩ = some (.slice K.dh.p K.dh.n K.dh.c) := by
 obtain ⟨ev,inp,hB,_⟩ := hM.cells; rw [hB.cell,mc_lo (by omega)]; rfl
theorem Inv.ctop (hM : Inv O I OK n0 w.heap m K σ) {k : Nat} (hk : k < 6) : w.cell? ⟨m,10 + k * 1,none⟩ = some (.int .i64 (σ.top.getD k 0)) := by
 obtain ⟨ev,inp,hB,l1,_⟩ := hM.cells; rw [hB.cell,mc_top l1 hk]
theorem Inv.ckept (hM : Inv O I OK n0 w.heap m K σ) {k : Nat} (hk : k < 24) : w.cell? ⟨m,16 + k * 1,none⟩ = some (.int .i64 (σ.kept.getD k 0)) := by
 obtain ⟨ev,inp,hB,l1,l2,_⟩ := hM.cells; rw [hB.cell,mc_kept l1 l2 hk]
theorem Inv.ccopied (hM : Inv O I OK n0 w.heap m K σ) {k : Nat} (hk : k < 24) : w.cell? ⟨m,40 + k * 1,none⟩ = some (.int .i64 (σ.copied.getD k 0)) := by
 obtain ⟨ev,inp,hB,l1,l2,l3,_⟩ := hM.cells; rw [hB.cell,mc_copied l1 l2 l3 hk]
theorem Inv.c66 (hM : Inv O I OK n0 w.heap m K σ) : w.cell? ⟨m,66,none⟩ = some (.bool σ.halted) := by
 obtain ⟨ev,inp,hB,l1,l2,l3,_⟩ := hM.cells; rw [hB.cell,show 66 = 64 + 2 by rfl,mc_hi l1 l2 l3]; rfl
theorem Inv.c67 (hM : Inv O I OK n0 w.heap m K σ) : w.cell? ⟨m,67,none⟩ = some (.int .i64 σ.clock) := by
 obtain ⟨ev,inp,hB,l1,l2,l3,_⟩ := hM.cells; rw [hB.cell,show 67 = 64 + 3 by rfl,mc_hi l1 l2 l3]; rfl
theorem Inv.c68 (hM : Inv O I OK n0 w.heap m K σ) : w.cell? ⟨m,68,none⟩ = some (.int .i64 σ.looks) := by
 obtain ⟨ev,inp,hB,l1,l2,l3,_⟩ := hM.cells; rw [hB.cell,show 68 = 64 + 4 by rfl,mc_hi l1 l2 l3]; rfl
theorem Inv.c69 (hM : Inv O I OK n0 w.heap m K σ) : w.cell? ⟨m,69,none⟩ = some (.int .i64 σ.why) := by
 obtain ⟨ev,inp,hB,l1,l2,l3,_⟩ := hM.cells; rw [hB.cell,show 69 = 64 + 5 by rfl,mc_hi l1 l2 l3]; rfl
theorem Inv.stop (hM : Inv O I OK n0 w.heap m K σ) {k : Nat} (hk : k < 6) (v : Int) {k' : World -> Prop} (H : ∀ w2,Inv O I OK n0 w2.heap m K { σ with top := σ.top.set k v } -> Fr OK w.heap w2.heap -> w2.heap.size = w.heap.size -> Fr (· = m) w.heap w2.heap -> k' w2) : stores w m (10 + k * 1) [.int .i64 v] k' := by
 obtain ⟨ev,inp,hB,l1,l2,l3,back⟩ := hM.cells
 refine stores_i hB (by rw [mc_len l1 l2 l3]; simp; omega) ?_; intro w2 hB2 hF2 hz2
 rw [ms_top l1 hk] at hB2
 obtain ⟨a,b⟩ := back _ { σ with top := σ.top.set k v } hB2 hF2 (by simp [l1]) l2 l3 ⟨rfl,rfl,rfl,rfl,rfl,rfl,rfl,rfl⟩
 exact H w2 a b hz2 hF2
theorem Inv.skept (hM : Inv O I OK n0 w.heap m K σ) {k : Nat} (hk : k < 24) (v : Int) {k' : World -> Prop} (H : ∀ w2,Inv O I OK n0 w2.heap m K { σ with kept := σ.kept.set k v } -> Fr OK w.heap w2.heap -> w2.heap.size = w.heap.size -> Fr (· = m) w.heap w2.heap -> k' w2) : stores w m (16 + k * 1) [.int .i64 v] k' := by
 obtain ⟨ev,inp,hB,l1,l2,l3,back⟩ := hM.cells
 refine stores_i hB (by rw [mc_len l1 l2 l3]; simp; omega) ?_; intro w2 hB2 hF2 hz2
 rw [ms_kept l1 l2 hk] at hB2
 obtain ⟨a,b⟩ := back _ { σ with kept := σ.kept.set k v } hB2 hF2 l1 (by simp [l2]) l3 ⟨rfl,rfl,rfl,rfl,rfl,rfl,rfl,rfl⟩
 exact H w2 a b hz2 hF2
theorem Inv.scopied (hM : Inv O I OK n0 w.heap m K σ) {k : Nat} (hk : k < 24) (v : Int) {k' : World -> Prop} (H : ∀ w2,Inv O I OK n0 w2.heap m K { σ with copied := σ.copied.set k v } -> Fr OK w.heap w2.heap -> w2.heap.size = w.heap.size -> Fr (· = m) w.heap w2.heap -> k' w2) : stores w m (40 + k * 1) [.int .i64 v] k' := by
 obtain ⟨ev,inp,hB,l1,l2,l3,back⟩ := hM.cells
 refine stores_i hB (by rw [mc_len l1 l2 l3]; simp; omega) ?_; intro w2 hB2 hF2 hz2
 rw [ms_copied l1 l2 l3 hk] at hB2
 obtain ⟨a,b⟩ := back _ { σ with copied := σ.copied.set k v } hB2 hF2 l1 l2 (by simp [l3]) ⟨rfl,rfl,rfl,rfl,rfl,rfl,rfl,rfl⟩
 exact H w2 a b hz2 hF2
theorem Inv.shalted (hM : Inv O I OK n0 w.heap m K σ) (v : Bool) {k' : World -> Prop} (H : ∀ w2,Inv O I OK n0 w2.heap m K { σ with halted := v } -> Fr OK w.heap w2.heap -> w2.heap.size = w.heap.size -> Fr (· = m) w.heap w2.heap -> k' w2) : stores w m 66 [.bool v] k' := by
 obtain ⟨ev,inp,hB,l1,l2,l3,back⟩ := hM.cells
 refine stores_i hB (by rw [mc_len l1 l2 l3]; simp) ?_; intro w2 hB2 hF2 hz2
 simp only [sets] at hB2; rw [show 66 = 64 + 2 by rfl,ms_hi l1 l2 l3] at hB2
 obtain ⟨a,b⟩ := back _ { σ with halted := v } hB2 hF2 l1 l2 l3 ⟨rfl,rfl,rfl,rfl,rfl,rfl,rfl,rfl⟩
 exact H w2 a b hz2 hF2
theorem Inv.slooks (hM : Inv O I OK n0 w.heap m K σ) (v : Int) {k' : World -> Prop} (H : ∀ w2,Inv O I OK n0 w2.heap m K { σ with looks := v } -> Fr OK w.heap w2.heap -> w2.heap.size = w.heap.size -> Fr (· = m) w.heap w2.heap -> k' w2) : stores w m 68 [.int .i64 v] k' := by
 obtain ⟨ev,inp,hB,l1,l2,l3,back⟩ := hM.cells
 refine stores_i hB (by rw [mc_len l1 l2 l3]; simp) ?_; intro w2 hB2 hF2 hz2
 simp only [sets] at hB2; rw [show 68 = 64 + 4 by rfl,ms_hi l1 l2 l3] at hB2
 obtain ⟨a,b⟩ := back _ { σ with looks := v } hB2 hF2 l1 l2 l3 ⟨rfl,rfl,rfl,rfl,rfl,rfl,rfl,rfl⟩
 exact H w2 a b hz2 hF2
theorem Inv.swhy (hM : Inv O I OK n0 w.heap m K σ) (v : Int) {k' : World -> Prop} (H : ∀ w2,Inv O I OK n0 w2.heap m K { σ with why := v } -> Fr OK w.heap w2.heap -> w2.heap.size = w.heap.size -> Fr (· = m) w.heap w2.heap -> k' w2) : stores w m 69 [.int .i64 v] k' := by
 obtain ⟨ev,inp,hB,l1,l2,l3,back⟩ := hM.cells
 refine stores_i hB (by rw [mc_len l1 l2 l3]; simp) ?_; intro w2 hB2 hF2 hz2
 simp only [sets] at hB2; rw [show 69 = 64 + 5 by rfl,ms_hi l1 l2 l3] at hB2
 obtain ⟨a,b⟩ := back _ { σ with why := v } hB2 hF2 l1 l2 l3 ⟨rfl,rfl,rfl,rfl,rfl,rfl,rfl,rfl⟩
 exact H w2 a b hz2 hF2
end
end
section
section
variable {α : Type} (O : StoreOps α)
def mTell (σ : TM α) (kind proc : Int) (v : TVal) : TM α := { σ with events := σ.events ++ [⟨kind,proc,v⟩] }
def mCls (σ : TM α) (d : Int) : Int × TM α := ((O.cls σ.s d).1,{ σ with s := (O.cls σ.s d).2 })
def mObject (σ : TM α) (w : Int) : (Int × Bool) × TM α :=
 if (wID w).2 = false then ((0,false),σ) else if (mCls O σ (wID w).1).1 < 0 then ((0,false),(mCls O σ (wID w).1).2) else (((wID w).1,true),(mCls O σ (wID w).1).2)
def mClass (σ : TM α) (w : Int) : Int × TM α := if (mObject O σ w).1.2 then mCls O (mObject O σ w).2 (mObject O σ w).1.1 else (1,(mObject O σ w).2)
def mSaid (σ : TM α) (w : Int) : TVal × TM α :=
 if (wNum w).2 then (⟨3,(wNum w).1⟩,σ) else if w = 6 then (⟨1,0⟩,σ) else if w = 4 then (⟨2,0⟩,σ)
 else if (mObject O σ w).1.2 then (⟨4,(mCls O (mObject O σ w).2 (mObject O σ w).1.1).1⟩,(mCls O (mObject O σ w).2 (mObject O σ w).1.1).2) else (⟨0,0⟩,(mObject O σ w).2)
def mDone (σ : TM α) : TM α := if maxL σ.top < 0 then mTell { σ with halted := true } 4 0 ⟨0,0⟩ else σ
def mOff (σ : TM α) (p : Int) : TM α := { σ with queue := qEnd σ.queue,top := σ.top.set p.toNat (-1) }
def mEnd (σ : TM α) (p w : Int) : TM α := mDone (mTell (mSaid O (mOff σ p) w).2 2 p (mSaid O (mOff σ p) w).1)
def TM.meth (σ : TM α) (i : Int) : TMethod := σ.u.methods.getD i.toNat default
def mTake (σ : TM α) (method self : Int) (args : List Int) (sender home serial : Int) : Int × TM α :=
 let r := pTake σ.pool method self (args ++ List.replicate (σ.meth method).temps.toNat 2) sender home
 if r.1 < 0 then (-1,{ σ with pool := r.2 })
 else if serial = 0 then (r.1,{ σ with pool := r.2,kept := (σ.kept.set r.1.toNat serial).set r.1.toNat (pAt r.2 r.1).1.serial,copied := σ.copied.set r.1.toNat 0 })
 else (r.1,{ σ with pool := r.2,kept := σ.kept.set r.1.toNat serial,copied := σ.copied.set r.1.toNat 0 })
def mArgs (u : TUnit) (method lit : Int) : Int × Int :=
 (nArgs (u.names.getD ((u.methods.getD method.toNat default).lits.getD lit.toNat default).n.toNat ⟨#[]⟩),((u.methods.getD method.toNat default).lits.getD lit.toNat default).n)
def mFindIn (cls sel : Int) (σ : TM α) : List Int -> Int × TM α
 | [] => (-1,σ)
 | i :: l =>
  if 0 <= (dFind (σ.dicts.getD i.toNat dNew) sel).1 then ((dFind (σ.dicts.getD i.toNat dNew) sel).1,{ σ with looks := IntKind.wrap .i64 (σ.looks + (dFind (σ.dicts.getD i.toNat dNew) sel).2),cache := caPut σ.cache cls sel (dFind (σ.dicts.getD i.toNat dNew) sel).1 })
  else mFindIn cls sel { σ with looks := IntKind.wrap .i64 (σ.looks + (dFind (σ.dicts.getD i.toNat dNew) sel).2) } l
def mFind (σ : TM α) (cls sel : Int) : Int × TM α :=
 if cls < 0 then (-1,σ)
 else if (caGet σ.cache cls sel).1.2 then ((caGet σ.cache cls sel).1.1,{ σ with cache := (caGet σ.cache cls sel).2 })
 else mFindIn cls sel { σ with cache := (caGet σ.cache cls sel).2,why := 2 } (hChain σ.u.classes cls)
end
theorem wID_le (w : Int) : (wID w).1 <= mostI := by
 unfold wID mostI
 split
 ·simp
 ·split
  ·simp
  ·simp only [wrap_i64]; omega
def MTo {α : Type} (O : StoreOps α) (I : Hp -> (Nat -> Prop) -> Value -> α -> Prop) (OK : Nat -> Prop) (n0 m : Nat) (K : MK) (v : Value) (σ : TM α) (w : World) : Ending -> World -> Prop :=
 fun en w' => en = .returned v /\ Inv O I OK n0 w'.heap m K σ /\ Fr OK w.heap w'.heap
def Sub (OK : Nat -> Prop) (a b : Nat) : Nat -> Prop := fun y => (OK y /\ y < a) \/ b <= y
section
variable {α : Type} {O : StoreOps α} {I : Hp -> (Nat -> Prop) -> Value -> α -> Prop} {OK : Nat -> Prop} {n0 : Nat} {m : Nat} {K : MK} {σ : TM α} {h h' h0 : Hp} {a b : Nat}
theorem Inv.sub (hM : Inv O I OK n0 h m K σ) (hf : Nw h h') : Inv O I (Sub OK h.size h'.size) h'.size h' m K σ := by
 obtain ⟨ev,inp,κ,hp⟩ := hM.mc
 exact ⟨hM.sp,Nat.le_refl _,fun y hy => .inr hy,(hp.fr hM.sp hf (fun _ _ _ h => h) fun y hy h => .inl ⟨h,hy⟩).toM⟩
theorem Inv.subOK (hM : Inv O I OK n0 h m K σ) (hb : h.size <= b) {y : Nat} (hy : Sub OK a b y) : OK y := by
 rcases hy with hy | hy
 ·exact hy.1
 ·exact hM.up y (Nat.le_trans hM.le (Nat.le_trans hb hy))
theorem Inv.unsub (hM0 : Inv O I OK n0 h0 m K σ) {σ' : TM α} {c : Nat} (hM : Inv O I (Sub OK a b) c h m K σ') (hb : h0.size <= b) (hbh : b <= h.size) : Inv O I OK n0 h m K σ' := by
 obtain ⟨ev,inp,κ,hp⟩ := hM.mc
 exact ⟨hM0.sp,Nat.le_trans hM0.le (Nat.le_trans hb hbh),hM0.up,(hp.fr hM.sp (Fr.refl (fun _ => False) _) (fun _ _ _ h => h) fun y _ hy => hM0.subOK hb hy).toM⟩
theorem Inv.frsub (hM0 : Inv O I OK n0 h0 m K σ) (hf : Fr (Sub OK a b) h h') (hb : h0.size <= b) : Fr OK h h' := hf.mono fun _ _ hy => hM0.subOK hb hy
theorem Inv.loc {x : Nat} (hM : Inv O I OK n0 h m K σ) (hf : Fr (· = x) h h') (hx : ¬ OK x) : Inv O I OK n0 h' m K σ := by
 obtain ⟨ev,inp,κ,hp⟩ := hM.mc
 exact ⟨hM.sp,Nat.le_trans hM.le hf.le,hM.up,(hp.fr hM.sp hf (fun y _ hy e => hx (e ▸ hy)) fun _ _ h => h).toM⟩
theorem not_sub {y : Nat} (h1 : a <= y) (h2 : y < b) : ¬ Sub OK a b y := fun h => by rcases h with h | h; (have := h.2; omega); omega
end
section
variable {α : Type} {O : StoreOps α} {I : Hp -> (Nat -> Prop) -> Value -> α -> Prop} {OK : Nat -> Prop} {n0 : Nat} {m : Nat} {K : MK} {σ : TM α} {w : World}
theorem Inv.refl (hM : Inv O I OK n0 w.heap m K σ) (v : Value) : MTo O I OK n0 m K v σ w (.returned v) w := ⟨rfl,hM,Fr.refl _ _⟩
theorem Nw.ok {h h' : Hp} (hf : Nw h h') : Fr OK h h' := hf.fr
theorem act_tell_ok (hM : Inv O I OK n0 w.heap m K σ) (hl : σ.events.length < 1000000) (kind proc : Int) (v : TVal) :
  Calls P F.Zw #[.pointer (some ⟨m,0,none⟩),.int .i64 kind,.int .i64 proc,.agg #[.int .i64 v.kind,.int .i64 v.n]] w (MTo O I OK n0 m K (.tuple #[]) (mTell σ kind proc v) w) := by
 refine oZw ?_
 obtain ⟨ev,inp,κ,hp0⟩ := hM.mc
 refine newB_i ?_; intro b w1 b_eq hB hN w1_sz; try simp only [drew_heap',dr_heap] at b_eq hN
 have hp := hp0.fr (ok' := OK) hM.sp hN (fun _ _ _ h => h) (fun _ _ h => h)
 replace hM := hM.nw hN
 have hN0 := hN
 have hlen := hp.evs.len
 have c64 : ∀ w' : World,Bk w'.heap m (mcells K σ ev inp) -> w'.cell? ⟨m,64,none⟩ = some (.slice ev.p ev.n ev.c) := fun w' h => by rw [h.cell,show 64 = 64 + 0 by rfl,mc_hi hp.l1 hp.l2 hp.l3]; rfl
 refine ⟨ev.p,ev.n,ev.c,c64 w1.drew hp.bk,v.kind,v.n,hB.holds (w := w1.drew),?_⟩
 refine newB_i ?_; intro b1 w2 b1_eq hB2 hN2 w2_sz; try simp only [drew_heap',dr_heap] at b1_eq hN2
 have hM2 := hM.nw hN2
 have hm2 := hp.bk.nw hN2
 refine ⟨⟨(hB.nw hN2).holds,c64 w2 hm2,trivial⟩,?_⟩
 have hs1 : Sl w2.heap (fun y => y = b1) eEvent (some ⟨b1,0,none⟩) 1 1 [⟨kind,proc,v⟩] := (Sl.of_blk (l := [(⟨kind,proc,v⟩ : TEvent)]) (E := eEvent) hB2 rfl rfl (by simp)).mono fun _ _ h => h.symm
 have hev2 : Sl w2.heap (fun y => (OK y /\ κ y = 7) /\ y < w.heap.size) eEvent ev.p ev.n ev.c σ.events := ((hp0.evs.mono fun y hy h => (⟨h,hy⟩ : (OK y /\ κ y = 7) /\ y < w.heap.size)).nw hN).nw hN2
 refine append_r ty_event hev2 hs1 (by omega) ?_
 intro p' c' w3 h3 hF3
 have hm3 := hm2.fr hF3 (fun h => by have := hp.km; have := h.1.2; omega)
 have hB3 := (hB.nw hN2).fr hF3 (fun h => by have := h.2; omega)
 refine ⟨⟨hB3.holds,trivial⟩,?_⟩
 refine stores_i hm3 (by rw [mc_len hp.l1 hp.l2 hp.l3]; simp) ?_; intro w4 hB4 hF4 hz4
 simp only [sets] at hB4
 rw [show 64 = 64 + 0 by rfl,ms_hi hp.l1 hp.l2 hp.l3] at hB4
 have hle2 := hN2.le
 have hF : Fr (fun y => OK y /\ (κ y = 7 \/ κ y = 0)) w1.heap w4.heap := (hN2.fr.trans (T := fun y => OK y /\ (κ y = 7 \/ κ y = 0)) hF3 (fun _ _ h => h) (fun y _ h => ⟨h.1.1,.inl h.1.2⟩)).trans hF4 (fun _ _ h => h) fun y _ h => by rw [h]; exact ⟨hp.okm,.inr hp.km⟩
 refine ⟨trivial,rfl,⟨hM.sp,Nat.le_trans hM.le hF.le,hM.up,?_⟩,hN0.ok.trans' (hF.mono fun _ _ h => h.1)⟩
 refine MC.toM (hp.upd (σ' := mTell σ kind proc v) (ev' := ⟨p',ev.n + 1,c'⟩) (inp' := inp) hM.sp 7 hF hM.ups hB4 hp.l1 hp.l2 hp.l3 (.inl ⟨by omega,rfl⟩) (.inl ⟨by omega,rfl⟩) (.inl ⟨by omega,rfl⟩) (.inl ⟨by omega,rfl⟩) ⟨by omega,rfl⟩ ⟨by omega,rfl⟩ (.inr ?_) (.inl ⟨by omega,rfl,rfl⟩))
 refine h3.fr hF4 (fun y hy h e => ?_) (fun y hy h => ?_)
 ·have := hp.km; have := hp.bk.lt; subst e; rcases h with h | h; (have := h.1.2; omega); omega
 ·rcases h with h | h
  ·exact ⟨h.1.1,by rw [ret_lt (by have := h.2; have := hN0.le; omega)]; exact h.1.2⟩
  ·exact ⟨hM.ups y (by omega),by rw [ret_ge (by omega)]⟩
theorem act_object_ok (hM : Inv O I OK n0 w.heap m K σ) (x : Int) : Calls P F.Z3n #[.pointer (some ⟨m,0,none⟩),.int .u32 x] w (MTo O I OK n0 m K (.tuple #[.int .i64 (mObject O σ x).1.1,.bool (mObject O σ x).1.2]) (mObject O σ x).2 w) := by
 refine oZ3n ?_
 refine (word_ID_ok x w).mono ?_; rintro _ _ ⟨rfl,n,rfl⟩
 refine ⟨_,_,rfl,?_⟩
 unfold mObject mCls
 cases h : (wID x).2 with
 | false => simp only [Bool.not_false,br_true,if_true]; exact ⟨rfl,hM,Fr.refl _ _⟩
 | true =>
  simp only [Bool.not_true,br_false,Bool.true_eq_false,if_false]
  have hM : Inv O I OK n0 (dr w n).heap m K σ := hM
  refine ⟨.iface K.st K.s,hM.c5,?_⟩
  rw [onIface_some]
  obtain ⟨o_w2,ho_w2,hS_w2,back_w2⟩ := hM.store
  obtain ⟨fn_w2,rc_w2,hm1_w2,hm2_w2,hm3_w2⟩ := hM.sp.cls _ hS_w2 (wID_le x)
  refine ⟨fn_w2,rc_w2,hm1_w2,?_⟩
  rw [hm2_w2,chk_true]
  refine hm3_w2.mono ?_; rintro _ w2 ⟨rfl,hS'_w2,hF_w2⟩
  obtain ⟨hM_w2,hFo_w2⟩ := back_w2 _ _ hS'_w2 hF_w2
  refine ⟨_,rfl,?_⟩
  refine br_of (fun h2 => ?_) (fun h2 => ?_) <;> simp only [ZJ,ZK,ZL,ZM,ZN,ZO,ZP,ZQ,ZR] at h2
  ·rw [if_pos h2]; exact ⟨rfl,hM_w2,hFo_w2⟩
  ·rw [if_neg (by omega)]; exact ⟨rfl,hM_w2,hFo_w2⟩
theorem mObject_le (σ : TM α) (x : Int) : (mObject O σ x).1.1 <= mostI := by
 have := wID_le x
 unfold mObject
 split
 ·simp [mostI]
 ·split
  ·simp [mostI]
  ·exact this
theorem act_class_ok (hM : Inv O I OK n0 w.heap m K σ) (x : Int) : Calls P F.Z2p #[.pointer (some ⟨m,0,none⟩),.int .u32 x] w (MTo O I OK n0 m K (.int .i64 (mClass O σ x).1) (mClass O σ x).2 w) := by
 refine oZ2p ?_
 refine (act_object_ok hM x).mono ?_; rintro _ w1 ⟨rfl,hM1,hF1⟩
 refine ⟨_,_,rfl,?_⟩
 unfold mClass
 cases h : (mObject O σ x).1.2 with
 | false => simp only [br_false,Bool.false_eq_true,if_false]; exact ⟨rfl,hM1,hF1⟩
 | true =>
  simp only [br_true,if_true,mCls]
  refine ⟨.iface K.st K.s,hM1.c5,?_⟩
  rw [onIface_some]
  obtain ⟨o_w2,ho_w2,hS_w2,back_w2⟩ := hM1.store
  obtain ⟨fn_w2,rc_w2,hm1_w2,hm2_w2,hm3_w2⟩ := hM1.sp.cls _ hS_w2 (mObject_le σ x)
  refine ⟨fn_w2,rc_w2,hm1_w2,?_⟩
  rw [hm2_w2,chk_true]
  refine hm3_w2.mono ?_; rintro _ w2 ⟨rfl,hS'_w2,hF_w2⟩
  obtain ⟨hM_w2,hFo_w2⟩ := back_w2 _ _ hS'_w2 hF_w2
  exact ⟨_,rfl,rfl,hM_w2,hF1.trans' hFo_w2⟩
theorem act_said_ok (hM : Inv O I OK n0 w.heap m K σ) (x : Int) : Calls P F.Z2r #[.pointer (some ⟨m,0,none⟩),.int .u32 x] w (MTo O I OK n0 m K (.agg #[.int .i64 (mSaid O σ x).1.kind,.int .i64 (mSaid O σ x).1.n]) (mSaid O σ x).2 w) := by
 refine oZ2r ?_
 refine newB_i ?_; intro b w1 b_eq hB hN w1_sz; try simp only [drew_heap',dr_heap] at b_eq hN
 have hM1 := hM.sub hN
 have hb := hB.lt
 have hle := hN.le
 refine (word_Num_ok x w1).mono ?_; rintro _ _ ⟨rfl,n,rfl⟩
 refine ⟨_,_,rfl,?_⟩
 unfold mSaid
 replace hB : Bk (dr w1 n).heap b _ := hB
 replace hN : Nw w.heap (dr w1 n).heap := hN
 cases h : (wNum x).2 with
 | true =>
  simp only [br_true,if_true]
  refine stores_i hB (by simp [sets_length]) ?_; intro w3 hB3 hF3 w3_sz; try simp only [drew_heap',dr_heap] at w3_sz hF3
  simp only [sets,ZH,ZI] at hB3
  have hN3 : Nw w.heap w3.heap := hN.st hF3 (by omega)
  refine ⟨_,_,hB3.holds,rfl,hM.nw hN3,hN3.ok⟩
 | false =>
  simp only [br_false,Bool.false_eq_true,if_false]
  refine br_of (fun h6 => ?_) (fun h6 => ?_) <;> simp only [ZJ,ZK,ZL,ZM,ZN,ZO,ZP,ZQ,ZR] at h6
  ·simp only [h6,if_true]
   refine stores_i hB (by simp [sets_length]) ?_; intro w3 hB3 hF3 w3_sz; try simp only [drew_heap',dr_heap] at w3_sz hF3
   simp only [sets,ZH,ZI] at hB3
   have hN3 : Nw w.heap w3.heap := hN.st hF3 (by omega)
   refine ⟨_,_,hB3.holds,rfl,hM.nw hN3,hN3.ok⟩
  rw [if_neg h6]
  refine br_of (fun h4 => ?_) (fun h4 => ?_) <;> simp only [ZJ,ZK,ZL,ZM,ZN,ZO,ZP,ZQ,ZR] at h4
  ·simp only [h4,if_true]
   refine stores_i hB (by simp [sets_length]) ?_; intro w3 hB3 hF3 w3_sz; try simp only [drew_heap',dr_heap] at w3_sz hF3
   simp only [sets,ZH,ZI] at hB3
   have hN3 : Nw w.heap w3.heap := hN.st hF3 (by omega)
   refine ⟨_,_,hB3.holds,rfl,hM.nw hN3,hN3.ok⟩
  rw [if_neg h4]
  refine (act_object_ok (w := dr w1 n) hM1 x).mono ?_; rintro _ w2 ⟨rfl,hM2,hF2⟩
  have hB2 := hB.fr hF2 (not_sub (by omega) hb)
  have hle2 := hF2.le
  refine ⟨_,_,rfl,?_⟩
  cases h5 : (mObject O σ x).1.2 with
  | false =>
   simp only [br_false,Bool.false_eq_true,if_false]
   refine stores_i hB2 (by simp [sets_length]) ?_; intro w3 hB3 hF3 w3_sz; try simp only [drew_heap',dr_heap] at w3_sz hF3
   simp only [sets,ZH,ZI] at hB3
   refine ⟨_,_,hB3.holds,rfl,?_,?_⟩
   ·exact hM.unsub (hM2.loc hF3 (not_sub (by omega) hb)) hle (Nat.le_trans hle2 hF3.le)
   ·exact (hN.ok.trans' (hM.frsub hF2 hle)).trans hF3 (fun _ _ h => h) fun y _ h => by rw [h]; exact hM.ups b (by omega)
  | true =>
   simp only [br_true,if_true,mCls]
   refine ⟨.iface K.st K.s,hM2.c5,?_⟩
   rw [onIface_some]
   obtain ⟨o_w4,ho_w4,hS_w4,back_w4⟩ := hM2.store
   obtain ⟨fn_w4,rc_w4,hm1_w4,hm2_w4,hm3_w4⟩ := hM2.sp.cls _ hS_w4 (mObject_le σ x)
   refine ⟨fn_w4,rc_w4,hm1_w4,?_⟩
   rw [hm2_w4,chk_true]
   refine hm3_w4.mono ?_; rintro _ w4 ⟨rfl,hS'_w4,hF_w4⟩
   obtain ⟨hM_w4,hFo_w4⟩ := back_w4 _ _ hS'_w4 hF_w4
   have hB4 := hB2.fr hFo_w4 (not_sub (by omega) hb)
   refine ⟨_,rfl,?_⟩
   refine stores_i hB4 (by simp [sets_length]) ?_; intro w3 hB3 hF3 w3_sz; try simp only [drew_heap',dr_heap] at w3_sz hF3
   simp only [sets,ZH,ZI] at hB3
   refine ⟨_,_,hB3.holds,rfl,?_,?_⟩
   ·exact hM.unsub (hM_w4.loc hF3 (not_sub (by omega) hb)) hle (Nat.le_trans hle2 (Nat.le_trans hFo_w4.le hF3.le))
   ·exact ((hN.ok.trans' (hM.frsub hF2 hle)).trans' (hM.frsub hFo_w4 hle)).trans hF3 (fun _ _ h => h) fun y _ h => by rw [h]; exact hM.ups b (by omega)
theorem split3 {A B C : List Value} {a b : Nat} (hA : A.length = a) (hB : B.length = b) : A ++ (B ++ C) = (A ++ (B ++ C)).take a ++ B ++ (A ++ (B ++ C)).drop (a + b) := by
 subst hA hB
 rw [List.take_left,<- List.drop_drop,List.drop_left,List.drop_left,List.append_assoc]
theorem mc_split {ev inp : Hd} (l1 : σ.top.length = 6) : mcells K σ ev inp = (mcells K σ ev inp).take 10 ++ recs eI64 σ.top ++ (mcells K σ ev inp).drop 16 := by
 rw [recs_i64]
 exact split3 (a := 10) (b := 6) rfl (by simpa using l1)
theorem act_done_ok (hM : Inv O I OK n0 w.heap m K σ) (hl : σ.events.length < 1000000) : Calls P F.Z22 #[.pointer (some ⟨m,0,none⟩)] w (MTo O I OK n0 m K (.tuple #[]) (mDone σ) w) := by
 refine oZ22 ?_
 obtain ⟨ev,inp,hB,l1,l2,l3,_⟩ := hM.cells
 have hs : Sl w.heap (fun y => y = m) eI64 (some ⟨m,10,none⟩) 6 6 σ.top := by
  refine ⟨l1,Nat.le_refl _,(by intro h; cases h),fun _ => ⟨m,(mcells K σ ev inp).take 10,(mcells K σ ev inp).drop 16,?_,rfl,by simp,?_⟩,by omega⟩
  ·rw [List.length_take,mc_len l1 l2 l3]; rfl
  ·rw [<- mc_split l1]; exact hB
 refine (slices_Max_int_int_ok hs (by omega)).mono ?_; rintro _ _ ⟨rfl,n,rfl⟩
 refine ⟨_,rfl,?_⟩
 unfold mDone
 refine br_of (fun h => ?_) (fun h => ?_) <;> simp only [ZJ,ZK,ZL,ZM,ZN,ZO,ZP,ZQ,ZR] at h
 ·rw [if_pos h]
  refine (show Inv O I OK n0 (dr w n).heap m K σ from hM).shalted true ?_; intro w2 hM2 hF2 hz2 hm2
  refine (act_tell_ok hM2 hl 4 0 ⟨0,0⟩).mono ?_; rintro _ w3 ⟨rfl,hM3,hF3⟩
  exact ⟨rfl,rfl,hM3,Fr.trans' (h1 := w2.heap) hF2 hF3⟩
 ·rw [if_neg (by omega)]; exact ⟨rfl,hM,Fr.refl _ _⟩
theorem act_end_ok (hM : Inv O I OK n0 w.heap m K σ) (hq : QInv σ.queue) (hl : σ.events.length < 999990) {p : Int} (hp : 0 <= p /\ p < 6) (x : Int) : Calls P F.Z40 #[.pointer (some ⟨m,0,none⟩),.int .i64 p,.int .u32 x] w (MTo O I OK n0 m K (.tuple #[]) (mEnd O σ p x) w) := by
 refine oZ40 ?_
 refine ⟨_,hM.c7,?_⟩
 obtain ⟨o,ho,hQ,back⟩ := hM.queue
 refine (queue_End_ok hQ hq).mono ?_; rintro _ w1 ⟨rfl,hQ1,hF1⟩
 obtain ⟨hM1,hFo1⟩ := back _ _ hQ1 hF1
 refine ⟨_,rfl,chk_of (by simp; omega) ?_⟩
 refine hM1.stop (k := p.toNat) (by omega) (-1) ?_; intro w2 hM2 hF2 hz2 hm2
 refine (act_said_ok (σ := mOff σ p) hM2 x).mono ?_; rintro _ w3 ⟨rfl,hM3,hF3⟩
 refine ⟨_,_,rfl,?_⟩
 have hev : (mSaid O (mOff σ p) x).2.events = σ.events := by
  unfold mSaid mObject mCls mOff
  repeat' (first | rfl | split)
 refine (act_tell_ok hM3 (by rw [hev]; omega) 2 p _).mono ?_; rintro _ w4 ⟨rfl,hM4,hF4⟩
 refine ⟨rfl,?_⟩
 refine (act_done_ok hM4 (by simp only [mTell,hev,List.length_append,List.length_cons,List.length_nil]; omega)).mono ?_; rintro _ w5 ⟨rfl,hM5,hF5⟩
 exact ⟨rfl,rfl,hM5,(((hFo1.trans' hF2).trans' hF3).trans' hF4).trans' hF5⟩
theorem Inv.unit {h : Hp} (hM : Inv O I OK n0 h m K σ) : ∃ o : Nat -> Prop,(∀ y,o y -> OK y) /\ IsUnit h o K.c σ.u := by
 obtain ⟨ev,inp,κ,hp⟩ := hM.mc
 exact ⟨_,fun _ h => h.1,hp.unit⟩
theorem Inv.meth (hM : Inv O I OK n0 w.heap m K σ) {i : Int} (hi : 0 <= i /\ i < σ.u.methods.length) {Q : Nat -> Nat -> Prop} (H : ∀ (o : Nat -> Prop) (r : CMethod) (g o' : Nat),IsMethod w.heap o r (σ.meth i) -> holds w g (o' + i.toNat * 4) r.vs -> Q g o') : (0 <= i /\ i < K.c.methods.n) /\ onPtr K.c.methods.p Q := by
 obtain ⟨o,_,hu⟩ := hM.unit
 obtain ⟨lm,hm,hmA⟩ := hu.methods
 have hn : K.c.methods.n = σ.u.methods.length := by rw [<- hm.len,hmA.len]
 obtain ⟨r,x,hr,hx,hrx⟩ := hmA.getL (i := i.toNat) (by omega)
 have ex : σ.meth i = x := by simp [TM.meth,List.getD_eq_getElem?_getD,hx]
 refine ⟨by omega,hm.idx hr fun g o' _ hh => H o r g o' (by rw [ex]; exact hrx) hh⟩
theorem act_args_ok (hM : Inv O I OK n0 w.heap m K σ) (hg : UGood σ.u) {i l : Int} (hi : 0 <= i /\ i < σ.u.methods.length) (hl : 0 <= l /\ l < (σ.meth i).lits.length) (hs : ((σ.meth i).lits.getD l.toNat default).kind = 5) :
  Calls P F.Z3x #[.pointer (some ⟨m,0,none⟩),.int .i64 i,.int .i64 l] w (Mk (.tuple #[.int .i64 (mArgs σ.u i l).1,.int .i64 (mArgs σ.u i l).2]) w) := by
 refine oZ3x ?_
 refine ⟨_,_,_,hM.c2,?_⟩
 obtain ⟨h0,h1⟩ := (hM.meth hi (Q := fun _ _ => True) (fun _ _ _ _ _ _ => trivial)).1
 refine chk_of (by simp; omega) ((hM.meth hi (fun o r g o' hr hh => ?_)).2)
 ·refine ⟨r.lits.p,r.lits.n,r.lits.c,hh.2.2.1,?_⟩
  have hln := hr.lits.len
  refine chk_of (by simp; omega) ?_
  have hv : (σ.meth i).lits[l.toNat]? = some ((σ.meth i).lits.getD l.toNat default) := getD_some (by omega)
  have hlit := (hg.methods (σ.meth i) (by simp only [TM.meth]; exact List.mem_of_getElem? (getD_some (by omega)))).lits _ (List.mem_of_getElem? hv)
  refine hr.lits.idx hv ?_; intro g1 o1 _ hh1
  refine ⟨_,hh1.2,_,_,_,hM.c0,?_⟩
  generalize hvd : (σ.meth i).lits.getD l.toNat default = v at *
  simp [cLit,hs] at hlit
  obtain ⟨ou,_,hu⟩ := hM.unit
  have hnl := hu.names.len
  refine chk_of (by simp; omega) ?_
  have hn : σ.u.names[v.n.toNat]? = some (σ.u.names.getD v.n.toNat ⟨#[]⟩) := getD_some (by omega)
  refine hu.names.idx1 hn ?_; intro g2 o2 _ hh2
  have hsz := (hg.names.1 _ (List.mem_of_getElem? hn)).2
  refine ⟨_,hh2,?_⟩
  refine (name_Args_ok _ w (by omega)).mono ?_; rintro _ w2 ⟨rfl,hN⟩
  refine ⟨_,rfl,?_,hN⟩
  simp only [mArgs]
  rw [show (σ.u.methods.getD i.toNat default).lits.getD l.toNat default = v from hvd]
theorem pTake_lt {π : TPool} {i self sender home : Int} {l : List Int} (hL : π.used.length = 24) (h : 0 <= (pTake π i self l sender home).1) : (pTake π i self l sender home).1 < 24 := by
 have hlt := indexB_lt (v := false) (l := π.used)
 rw [hL] at hlt
 unfold pTake at h ⊢
 generalize indexB false π.used = j at *
 by_cases hc : j < 0 \/ 8 < l.length
 ·simp [hc] at h
 ·simp only [hc,if_false] at h ⊢
  exact hlt h
theorem act_take_ok (hM : Inv O I OK n0 w.heap m K σ) {oa : Nat -> Prop} {p : Option Addr} {n c : Nat} {args : List Int} (hs : Sl w.heap oa eU32 p n c args) (hn : n <= 1000) {i : Int} (hi : 0 <= i /\ i < σ.u.methods.length) (ht : 0 <= (σ.meth i).temps /\ (σ.meth i).temps < 64) (self sender home serial : Int) (hL : σ.pool.used.length = 24) :
  Calls P F.Zo #[.pointer (some ⟨m,0,none⟩),.int .i64 i,.int .u32 self,.slice p n c,.int .i64 sender,.int .i64 home,.int .i64 serial] w (MTo O I OK n0 m K (.int .i64 (mTake σ i self args sender home serial).1) (mTake σ i self args sender home serial).2 w) := by
 refine oZo ?_
 refine newB_i ?_; intro b w1 b_eq hB hN w1_sz; try simp only [drew_heap',dr_heap] at b_eq hN
 have hM1 := hM.nw hN
 refine ⟨_,_,_,hM1.c2,?_⟩
 obtain ⟨h0,h1⟩ := (hM1.meth hi (Q := fun _ _ => True) (fun _ _ _ _ _ _ => trivial)).1
 refine chk_of (by simp; omega) ((hM1.meth hi (fun o r g o' hr hh => ?_)).2)
 refine ⟨r.temps,hh.2.1,?_⟩
 rw [hr.temps]
 obtain ⟨t,het⟩ := Int.eq_ofNat_of_zero_le ht.1
 rw [het]
 have hs1 : Sl w1.heap (fun y => y = b) eU32 (some ⟨b,0,none⟩) 1 1 [2] := (Sl.of_blk (l := [2]) (E := eU32) hB rfl rfl (by simp)).mono fun _ _ h => h.symm
 refine (slices_Repeat_uint32_uint32_ok hs1 t (by omega)).mono ?_; rintro _ w2 ⟨q,d,rfl,hq,hN2⟩
 refine ⟨q,t,d,rfl,?_⟩
 refine newB_i ?_; intro b1 w3 b1_eq hB3 hN3 w3_sz; try simp only [drew_heap',dr_heap] at b1_eq hN3
 have hN13 := hN.tr (hN2.tr hN3)
 have hsh : Sl w3.heap (fun y => y = b1) eHd (some ⟨b1,0,none⟩) 2 2 [⟨p,n,c⟩,⟨q,t,d⟩] := (Sl.of_blk (l := [(⟨p,n,c⟩ : Hd),⟨q,t,d⟩]) (E := eHd) hB3 rfl rfl (by simp)).mono fun _ _ h => h.symm
 have hal : All2 (fun h l => SlH w3.heap (fun _ => True) eU32 h l) [⟨p,n,c⟩,⟨q,t,d⟩] [args,List.replicate t 2] :=
  All2.cons ((hs.nw hN13).mono fun _ _ _ => trivial) (All2.cons ((hq.nw hN3).mono fun _ _ _ => trivial) All2.nil)
 have hal' := hs.len
 refine (slices_Concat_uint32_uint32_ok hsh hal (by simp; omega)).mono ?_; rintro _ w4 ⟨q4,d4,rfl,hq4,hN4⟩
 generalize [args,List.replicate t 2].flatten.length = n4 at hq4 ⊢
 rw [show [args,List.replicate t 2].flatten = args ++ List.replicate t 2 by simp] at hq4
 refine ⟨_,_,_,rfl,?_⟩
 have hN14 := hN13.tr hN4
 have hM4 := hM.sub hN14
 have hle14 := hN14.le; have hle13 := hN13.le
 refine ⟨_,hM4.c6,?_⟩
 obtain ⟨o,ho,hP,back⟩ := hM4.pool
 refine (frame_Take_ok hP hq4 (fun y hy hf h => not_sub (by have : w3.heap.size <= y := hf; omega) hy (ho y h)) i self sender home).mono ?_; rintro _ w5 ⟨rfl,hP5,hF5⟩
 obtain ⟨hM5,hFo5⟩ := back _ _ hP5 hF5
 refine ⟨_,rfl,?_⟩
 have hfin : ∀ {w' : World} {σ' : TM α},Inv O I (Sub OK w.heap.size w4.heap.size) w4.heap.size w'.heap m K σ' -> Fr (Sub OK w.heap.size w4.heap.size) w5.heap w'.heap -> Inv O I OK n0 w'.heap m K σ' /\ Fr OK w.heap w'.heap := fun hM' hF' =>
  ⟨hM.unsub hM' hle14 hM'.le,(hN14.ok.trans' (hM.frsub hFo5 hle14)).trans' (hM.frsub hF' hle14)⟩
 unfold mTake
 rw [het,Int.toNat_natCast]
 obtain ⟨R,eR⟩ : ∃ R,R = pTake σ.pool i self (args ++ List.replicate t 2) sender home := ⟨_,rfl⟩
 rw [<- eR] at hM5 ⊢
 simp only
 refine br_of (fun h2 => ?_) (fun h2 => ?_) <;> simp only [ZJ,ZK,ZL,ZM,ZN,ZO,ZP,ZQ,ZR] at h2
 ·rw [if_pos h2]
  obtain ⟨a,b⟩ := hfin hM5 (Fr.refl _ _)
  exact ⟨rfl,a,b⟩
 rw [if_neg (by omega)]
 refine ⟨_,hM5.c6,?_⟩
 obtain ⟨o',ho',hP',back'⟩ := hM5.pool
 refine (frame_At_ok hP' R.1).mono ?_; rintro _ w6 ⟨rf,rfl,hrf,hN6⟩
 refine ⟨_,_,_,_,_,_,_,_,_,_,_,_,_,rfl,?_⟩
 refine newB_i ?_; intro b2 w7 b2_eq hB7 hN7 w7_sz; try simp only [drew_heap',dr_heap] at b2_eq hN7
 refine stores_i hB7 (by simp [sets_length]) ?_; intro w8 hB8 hF8 w8_sz; try simp only [drew_heap',dr_heap] at w8_sz hF8
 simp only [sets,ZH,ZI] at hB8
 have hle6 := hN6.le; have hle7 := hN7.le
 have hN58 : Nw w5.heap w8.heap := (hN6.tr hN7).st hF8 (by omega)
 have hM8 := hM5.nw hN58
 have hmlt := hM5.mlt
 have h24 : R.1 < 24 := by rw [eR] at h2 ⊢; exact pTake_lt hL h2
 obtain ⟨k,hk⟩ := Int.eq_ofNat_of_zero_le h2
 rw [hk]
 refine chk_of (by simp; omega) ?_
 refine (show Inv O I _ _ w8.drew.heap m K _ from hM8).skept (k := k) (by omega) serial ?_; intro w9 hM9 hF9 hz9 hm9
 refine ⟨trivial,chk_of (by simp; omega) ?_⟩
 refine hM9.scopied (k := k) (by omega) 0 ?_; intro w10 hM10 hF10 hz10 hm10
 refine ⟨trivial,?_⟩
 have hB10 := (hB8.fr hm9 (by omega)).fr hm10 (by omega)
 have hF510 : Fr (Sub OK w.heap.size w4.heap.size) w5.heap w10.heap := (hN58.ok.trans' (h2 := w9.heap) hF9).trans' hF10
 refine br_of (fun h3 => ?_) (fun h3 => ?_) <;> simp only [ZJ,ZK,ZL,ZM,ZN,ZO,ZP,ZQ,ZR] at h3
 ·rw [if_pos h3]
  refine ⟨rf.serial,by rw [World.cell?_drew,hB10.cell]; rfl,chk_of (by simp; omega) ?_⟩
  refine (show Inv O I _ _ w10.drew.heap m K _ from hM10).skept (k := k) (by omega) rf.serial ?_; intro w11 hM11 hF11 hz11 hm11
  obtain ⟨a,b⟩ := hfin hM11 (hF510.trans' (h2 := w11.heap) hF11)
  refine ⟨trivial,rfl,?_,b⟩
  rw [hk] at hrf
  rw [<- hrf.serial]
  exact a
 ·rw [if_neg h3]
  obtain ⟨a,b⟩ := hfin hM10 hF510
  exact ⟨rfl,a,b⟩
theorem Inv.dict (hM : Inv O I OK n0 w.heap m K σ) {i : Nat} (hi : i < σ.dicts.length) {Q : Nat -> Nat -> Prop} (H : ∀ (b : Nat) (g o' : Nat),IsDict w.heap b (σ.dicts.getD i dNew) -> w.cell? ⟨g,o' + i * 1,none⟩ = some (.pointer (some ⟨b,0,none⟩)) -> Q g o') : K.dh.n = σ.dicts.length /\ onPtr K.dh.p Q := by
 obtain ⟨ev,inp,κ,hp⟩ := hM.mc
 obtain ⟨bs,hb1,hb2⟩ := hp.dicts
 obtain ⟨b,D,hb,hD,hr⟩ := hb2.getL hi
 have eD : σ.dicts.getD i dNew = D := by simp [List.getD_eq_getElem?_getD,hD]
 refine ⟨by rw [<- hb1.len,hb2.len],hb1.idx1 hb fun g o _ hc => H b g o (by rw [eD]; exact hr.1) hc⟩
theorem hChainFrom_lt (L : List TClass) : ∀ (f : Nat) (i : Int),∀ x ∈ hChainFrom L f i,0 <= x /\ x < L.length
 | 0,_ => by simp [hChainFrom]
 | f + 1,i => by
  intro x hx
  unfold hChainFrom at hx
  split at hx
  ·rename_i h
   rcases List.mem_cons.1 hx with rfl | hx
   ·exact h
   ·exact hChainFrom_lt L f _ x hx
  ·simp at hx
theorem act_find_ok (hM : Inv O I OK n0 w.heap m K σ) (hd : σ.dicts.length = σ.u.classes.length) (c sel : Int) : Calls P F.Z3z #[.pointer (some ⟨m,0,none⟩),.int .i64 c,.int .i64 sel] w (MTo O I OK n0 m K (.int .i64 (mFind σ c sel).1) (mFind σ c sel).2 w) := by
 refine oZ3z ?_
 refine newB_i ?_; intro b w1 b_eq hB hN w1_sz; try simp only [drew_heap',dr_heap] at b_eq hN
 refine stores_i hB (by simp [sets_length]) ?_; intro w2 hB2 hF2 w2_sz; try simp only [drew_heap',dr_heap] at w2_sz hF2
 simp only [sets,ZH,ZI] at hB2
 have hN2 : Nw w.heap w2.heap := hN.st hF2 (by omega)
 unfold mFind
 refine br_of (fun h1 => ?_) (fun h1 => ?_) <;> simp only [ZJ,ZK,ZL,ZM,ZN,ZO,ZP,ZQ,ZR] at h1
 ·rw [if_pos h1]; exact ⟨rfl,hM.nw hN2,hN2.ok⟩
 rw [if_neg (by omega)]
 have hM2 := hM.sub hN2
 have hle2 := hN2.le; have hb := hB2.lt; have hmlt := hM.mlt
 have hfin : ∀ {w' : World} {σ' : TM α},Inv O I (Sub OK w.heap.size w2.heap.size) w2.heap.size w'.heap m K σ' -> Fr (Sub OK w.heap.size w2.heap.size) w2.heap w'.heap -> Inv O I OK n0 w'.heap m K σ' /\ Fr OK w.heap w'.heap := fun hM' hF' =>
  ⟨hM.unsub hM' hle2 hM'.le,hN2.ok.trans' (hM.frsub hF' hle2)⟩
 refine ⟨_,Inv.c8 (w := w2.drew) hM2,c,sel,hB2.holds (w := w2.drew),?_⟩
 obtain ⟨hC,back⟩ := hM2.cache
 refine (cache_Get_ok (w := w2.drew) c sel hC).mono ?_; rintro _ w3 ⟨rfl,hC3,hF3⟩
 obtain ⟨hM3,hFo3⟩ := back _ _ hC3 hF3
 have hB3 := hB2.fr hFo3 (not_sub (by omega) hb)
 refine ⟨_,_,rfl,trivial,?_⟩
 cases hg : (caGet σ.cache c sel).1.2 with
 | true =>
  simp only [br_true,if_true]
  obtain ⟨a1,a2⟩ := hfin hM3 hFo3
  exact ⟨rfl,a1,a2⟩
 | false =>
  simp only [br_false,Bool.false_eq_true,if_false]
  refine hM3.swhy 2 ?_; intro w4 hM4 hF4 hz4 hm4
  have hB4 := hB3.fr hF4 (not_sub (by omega) hb)
  refine ⟨_,_,_,hM4.c1,?_⟩
  obtain ⟨ou,_,hu⟩ := hM4.unit
  obtain ⟨lc,hlc,hcA⟩ := hu.classes
  refine (shape_Chain_ok hlc hcA c).mono ?_; rintro _ w5 ⟨pc,nc,rfl,hch,hN5⟩
  refine ⟨_,_,_,rfl,?_⟩
  have hM5 := hM4.nw hN5
  have hB5 := hB4.nw hN5
  have hle5 := hN5.le
  have hF25 : Fr (Sub OK w.heap.size w2.heap.size) w2.heap w5.heap := (hFo3.trans' hF4).trans' hN5.ok
  have hmem : ∀ x ∈ hChain σ.u.classes c,0 <= x /\ x < σ.u.classes.length := hChainFrom_lt _ _ _
  have hcl := hch.len; have hcs := hch.small
  have hm4lt := hM4.mlt
  generalize hσ4 : ({ σ with cache := (caGet σ.cache c sel).2,why := 2 } : TM α) = σ4 at hM5 ⊢
  have hu4 : σ4.u = σ.u /\ σ4.dicts = σ.dicts := by rw [<- hσ4]; exact ⟨rfl,rfl⟩
  have hch' : Sl w5.heap (fun y => w4.heap.size <= y) eI64 pc nc nc (hChain σ.u.classes c) := hch
  generalize hChain σ.u.classes c = L at hmem hch' hcl ⊢
  obtain ⟨r,hr⟩ : ∃ r,r = mFindIn c sel σ4 L := ⟨_,rfl⟩
  rw [<- hr]
  refine ⟨fun t w' => ∃ (j : Nat) (σ' : TM α),t = (j : Int) /\ j <= nc /\ r = mFindIn c sel σ' (L.drop j) /\ σ'.u = σ.u /\ σ'.dicts = σ.dicts /\ Inv O I (Sub OK w.heap.size w2.heap.size) w2.heap.size w'.heap m K σ' /\ Bk w'.heap b [.int .i64 c,.int .i64 sel] /\ Sl w'.heap (fun y => w4.heap.size <= y) eI64 pc nc nc L /\ Fr (Sub OK w.heap.size w2.heap.size) w2.heap w'.heap,fun t _ => nc - t.toNat,
   ⟨0,σ4,rfl,Nat.zero_le _,by rw [List.drop_zero]; exact hr,hu4.1,hu4.2,hM5,hB5,hch',hF25⟩,?_⟩
  rintro t w6 ⟨j,σ',rfl,hj,he,hu',hd',hM6,hB6,hch6,hF6⟩
  refine br_of (fun h2 => ?_) (fun h2 => ?_) <;> simp only [ZJ,ZK,ZL,ZM,ZN,ZO,ZP,ZQ,ZR] at h2
  ·refine chk_of (by simp; omega) ?_
   have hx : L[j]? = some (L[j]'(by omega)) := List.getElem?_eq_getElem (by omega)
   have hdrop : L.drop j = L[j]'(by omega) :: L.drop (j + 1) := List.drop_eq_getElem_cons (by omega)
   generalize L[j]'(by omega) = x at hx hdrop
   obtain ⟨x0,x1⟩ := hmem x (List.mem_of_getElem? hx)
   refine hch6.idx1 hx ?_; intro g o _ hc
   refine ⟨_,hc,_,_,_,hM6.c9,?_⟩
   have hdl : x.toNat < σ'.dicts.length := by rw [hd',hd]; omega
   have hdn := (hM6.dict hdl (Q := fun _ _ => True) (fun _ _ _ _ _ => trivial)).1
   refine chk_of (by rw [hdn,hd',hd]; simp; omega) ((hM6.dict hdl (fun bd g1 o1 hD hc1 => ?_)).2)
   refine ⟨_,hc1,?_⟩
   refine (dict_Find_ok sel hD).mono ?_; rintro _ w7 ⟨rfl,hN7⟩
   have hM7 := hM6.nw hN7
   refine ⟨_,_,rfl,_,hM7.c68,?_⟩
   refine hM7.slooks _ ?_; intro w8 hM8 hF8 hz8 hm8
   have hle7 := hN7.le; have hle6 := hF6.le
   have hm6 := hM6.mlt
   have hB8 := (hB6.nw hN7).fr hm8 (by omega)
   have hF28 : Fr (Sub OK w.heap.size w2.heap.size) w2.heap w8.heap := (hF6.trans' hN7.ok).trans' hF8
   rw [hdrop,mFindIn] at he
   refine br_of (fun h3 => ?_) (fun h3 => ?_) <;> simp only [ZJ,ZK,ZL,ZM,ZN,ZO,ZP,ZQ,ZR] at h3
   ·rw [if_pos h3] at he
    refine ⟨_,Inv.c8 (w := w8.drew) hM8,c,sel,hB8.holds (w := w8.drew),?_⟩
    obtain ⟨hC8,back8⟩ := hM8.cache
    refine (cache_Put_ok (w := w8.drew) c sel _ hC8).mono ?_; rintro _ w9 ⟨rfl,hC9,hF9⟩
    obtain ⟨hM9,hFo9⟩ := back8 _ _ hC9 hF9
    obtain ⟨a1,a2⟩ := hfin hM9 (hF28.trans' hFo9)
    exact ⟨rfl,trivial,by rw [he],by rw [he]; exact a1,a2⟩
   ·rw [if_neg (by omega)] at he
    rw [wrap_id (by omega) (by omega)]
    exact ⟨⟨j + 1,_,rfl,by omega,he,hu',hd',hM8,hB8,(hch6.nw hN7).fr hm8 (fun y _ h e => by omega) (fun _ _ h => h),hF28⟩,by (first | omega | (dsimp only; omega))⟩
  ·rw [List.drop_of_length_le (by omega),mFindIn] at he
   obtain ⟨a1,a2⟩ := hfin hM6 hF6
   exact ⟨by rw [he],by rw [he]; exact a1,a2⟩
end
end
section
def pChain (π : TPool) : Nat -> Int -> List Int
 | 0,_ => []
 | n + 1,f => if f < 0 then [] else f :: pChain π n (pAt π f).1.sender
def ChainOf (π : TPool) : List Int -> Int -> Prop
 | [],f => f < 0
 | i :: l,f => f = i /\ pIs π i = true /\ ChainOf π l (π.fr i).sender
theorem pIs_give {π : TPool} {i t : Int} (h : i ≠ t) : pIs (pGive π i) t = pIs π t := by
 unfold pGive
 split
 ·rename_i hi
  simp only [pIs,Bool.and_eq_true,ZJ] at hi ⊢
  by_cases ht : 0 <= t
  ·simp only [List.getD_eq_getElem?_getD]
   rw [List.getElem?_set_ne (by omega)]
  ·simp [ht]
 ·rfl
theorem pGive_l (π : TPool) (i : Int) : (pGive π i).l = π.l := by unfold pGive; split <;> rfl
theorem gives_l (L : List Int) : ∀ π : TPool,(L.foldl pGive π).l = π.l := by
 induction L with
 | nil => intro π; rfl
 | cons i L ih => intro π; rw [List.foldl_cons,ih,pGive_l]
theorem gives_is {t : Int} (L : List Int) : ∀ π : TPool,t ∉ L -> pIs (L.foldl pGive π) t = pIs π t := by
 induction L with
 | nil => intro π _; rfl
 | cons i L ih => intro π h; rw [List.foldl_cons,ih _ (fun e => h (List.mem_cons_of_mem _ e)),pIs_give (fun e => h (by rw [e]; exact List.mem_cons_self))]
theorem gives_fr (L : List Int) (π : TPool) (t : Int) : (L.foldl pGive π).fr t = π.fr t := by simp only [TPool.fr,gives_l]
theorem ChainOf.used {π : TPool} : ∀ {L : List Int} {f : Int},ChainOf π L f -> ∀ x ∈ L,pIs π x = true
 | [],_,_,x,hx => by simp at hx
 | i :: L,f,h,x,hx => by
  rcases List.mem_cons.1 hx with rfl | hx
  ·exact h.2.1
  ·exact h.2.2.used x hx
theorem pIs_range {π : TPool} {x : Int} (h : pIs π x = true) : 0 <= x /\ x < 24 := by
 simp only [pIs,Bool.and_eq_true,ZJ] at h; exact h.1
theorem ChainOf.len {π : TPool} {L : List Int} {f : Int} (h : ChainOf π L f) (hn : L.Nodup) : L.length <= 24 := nodup_lt 24 L hn fun p hp => pIs_range (h.used p hp)
theorem pChain_eq {π : TPool} : ∀ {L : List Int} {f : Int} (n : Nat),ChainOf π L f -> L.length <= n -> pChain π n f = L
 | [],f,0,_,_ => rfl
 | [],f,n + 1,h,_ => by simp only [pChain]; exact if_pos h
 | i :: L,f,0,_,hn => by simp at hn
 | i :: L,f,n + 1,h,hn => by
  obtain ⟨rfl,h1,h2⟩ := h
  have hr := pIs_range h1
  simp only [pChain,pAt,h1,if_true]
  rw [if_neg (by omega),pChain_eq n h2 (by simpa using hn)]
section
variable {α : Type} (O : StoreOps α)
def mFail (σ : TM α) (p fault : Int) : TM α :=
 mDone (mTell { σ with pool := (pChain σ.pool 24 (σ.top.getD p.toNat 0)).foldl pGive σ.pool,queue := qEnd σ.queue,top := σ.top.set p.toNat (-1) } 3 p ⟨3,fault⟩)
end
section
variable {α : Type} {O : StoreOps α} {I : Hp -> (Nat -> Prop) -> Value -> α -> Prop} {OK : Nat -> Prop} {n0 : Nat} {m : Nat} {K : MK} {σ : TM α} {w : World}
theorem act_fail_ok (hM : Inv O I OK n0 w.heap m K σ) (hq : QInv σ.queue) (hl : σ.events.length < 999990) {p : Int} (hp : 0 <= p /\ p < 6) (fault : Int) {L : List Int} (hL : ChainOf σ.pool L (σ.top.getD p.toNat 0)) (hn : L.Nodup) :
  Calls P F.Zx #[.pointer (some ⟨m,0,none⟩),.int .i64 p,.int .i64 fault] w (MTo O I OK n0 m K (.tuple #[]) (mFail σ p fault) w) := by
 refine oZx ?_
 refine chk_of (by simp; omega) ⟨_,hM.ctop (k := p.toNat) (by omega),?_⟩
 unfold mFail
 rw [pChain_eq 24 hL (hL.len hn)]
 refine ⟨fun t w' => ∃ l1 l2 : List Int,L = l1 ++ l2 /\ ChainOf σ.pool l2 t /\ Inv O I OK n0 w'.heap m K { σ with pool := l1.foldl pGive σ.pool } /\ Fr OK w.heap w'.heap,fun t _ => (pChain σ.pool 25 t).length,⟨[],L,rfl,hL,hM,Fr.refl _ _⟩,?_⟩
 rintro t w1 ⟨l1,l2,he,hc,hM1,hF1⟩
 have hlen := hL.len hn
 have hl2 : l2.length <= 24 := by rw [he] at hlen; simp at hlen; omega
 refine br_of (fun h1 => ?_) (fun h1 => ?_) <;> simp only [ZJ,ZK,ZL,ZM,ZN,ZO,ZP,ZQ,ZR] at h1
 ·obtain ⟨i,l3,rfl⟩ : ∃ i l3,l2 = i :: l3 := by
   cases l2 with
   | nil => have : t < 0 := hc; omega
   | cons i l3 => exact ⟨i,l3,rfl⟩
  have hpc := pChain_eq 25 hc (by omega)
  obtain ⟨rfl,hi,hc3⟩ := hc
  have hni : t ∉ l1 := fun h => by
   rw [he,List.nodup_append] at hn
   exact hn.2.2 t h t List.mem_cons_self rfl
  refine ⟨_,hM1.c6,?_⟩
  obtain ⟨o,ho,hP,back⟩ := hM1.pool
  refine (frame_At_ok hP t).mono ?_; rintro _ w2 ⟨rf,rfl,hrf,hN2⟩
  refine ⟨_,_,_,_,_,_,_,_,_,_,_,_,_,rfl,?_⟩
  refine newB_i ?_; intro b w3 b_eq hB3 hN3 w3_sz; try simp only [drew_heap',dr_heap] at b_eq hN3
  refine stores_i hB3 (by simp [sets_length]) ?_; intro w4 hB4 hF4 w4_sz; try simp only [drew_heap',dr_heap] at w4_sz hF4
  simp only [sets,ZH,ZI] at hB4
  have hle2 := hN2.le
  have hN14 : Nw w1.heap w4.heap := (hN2.tr hN3).st hF4 (by omega)
  have hM4 := hM1.sub hN14
  have hb := hB4.lt; have hle := hN14.le
  refine ⟨_,hM4.c6,?_⟩
  obtain ⟨o',ho',hP',back'⟩ := hM4.pool
  refine (frame_Give_ok hP' t).mono ?_; rintro _ w5 ⟨rfl,hP5,hF5⟩
  obtain ⟨hM5,hFo5⟩ := back' _ _ hP5 hF5
  have hB5 := hB4.fr hFo5 (not_sub (by omega) hb)
  have hsend : rf.sender = (σ.pool.fr t).sender := by
   rw [hrf.sender]
   simp only [pAt,gives_is l1 σ.pool hni,hi,if_true,gives_fr]
  refine ⟨_,rfl,rf.sender,by rw [hB5.cell]; rfl,⟨l1 ++ [t],l3,by rw [he]; simp,by rw [hsend]; exact hc3,?_,?_⟩,?_⟩
  ·rw [List.foldl_append]
   exact hM1.unsub hM5 hle hM5.le
  ·exact (hF1.trans' hN14.ok).trans' (hM1.frsub hFo5 hle)
  ·show (pChain σ.pool 25 rf.sender).length < (pChain σ.pool 25 t).length
   rw [hpc,hsend,pChain_eq 25 hc3 (by simp at hl2; omega)]; simp
 ·obtain rfl : l2 = [] := by
   cases l2 with
   | nil => rfl
   | cons i l3 => obtain ⟨rfl,hi,_⟩ := hc; have := pIs_range hi; omega
  rw [List.append_nil] at he
  subst he
  refine ⟨_,hM1.c7,?_⟩
  obtain ⟨o,ho,hQ,back⟩ := hM1.queue
  refine (queue_End_ok hQ hq).mono ?_; rintro _ w2 ⟨rfl,hQ2,hF2⟩
  obtain ⟨hM2,hFo2⟩ := back _ _ hQ2 hF2
  refine ⟨_,rfl,chk_of (by simp; omega) ?_⟩
  refine hM2.stop (k := p.toNat) (by omega) (-1) ?_; intro w3 hM3 hF3 hz3 hm3
  refine (act_tell_ok hM3 (by show σ.events.length < _; omega) 3 p ⟨3,fault⟩).mono ?_; rintro _ w4 ⟨rfl,hM4,hF4⟩
  refine ⟨rfl,?_⟩
  refine (act_done_ok hM4 (by simp only [mTell,List.length_append,List.length_cons,List.length_nil]; omega)).mono ?_; rintro _ w5 ⟨rfl,hM5,hF5⟩
  exact ⟨rfl,rfl,hM5,(((hF1.trans' hFo2).trans' hF3).trans' hF4).trans' hF5⟩
end
structure DK where
 d : Nat
 sl : Hd
 st : Hd
structure TD where
 p : Int
 f : Int
 x : TFrame
 arg : Int
abbrev dcells (m : Nat) (D : DK) (δ : TD) : List Value :=
 [.pointer (some ⟨m,0,none⟩),.int .i64 δ.p,.int .i64 δ.f,.int .i64 δ.x.method,.int .i64 δ.x.pc,.int .i64 δ.x.sender,.int .i64 δ.x.home,.int .i64 δ.x.serial,.int .u32 δ.x.self,.slice D.sl.p D.sl.n D.sl.c,.slice D.st.p D.st.n D.st.c,.int .i64 δ.arg]
structure Dn (OK : Nat -> Prop) (h : Hp) (m : Nat) (D : DK) (δ : TD) : Prop where
 bk : Bk h D.d (dcells m D δ)
 nd : ¬ OK D.d
 sl : SlH h (fun y => ¬ OK y) eU32 D.sl δ.x.slots
 st : SlH h (fun y => ¬ OK y) eU32 D.st δ.x.stack
 s1 : δ.x.slots.length <= 8
 s2 : δ.x.stack.length <= 8
theorem Dn.fr {OK : Nat -> Prop} {h h' : Hp} {m : Nat} {D : DK} {δ : TD} (hd : Dn OK h m D δ) (hf : Fr OK h h') : Dn OK h' m D δ :=
 ⟨hd.bk.fr hf hd.nd,hd.nd,hd.sl.fr hf (fun _ _ h => h) (fun _ _ h => h),hd.st.fr hf (fun _ _ h => h) (fun _ _ h => h),hd.s1,hd.s2⟩
structure CT {α : Type} (O : StoreOps α) (I : Hp -> (Nat -> Prop) -> Value -> α -> Prop) (OK : Nat -> Prop) (n0 : Nat) (h : Hp) (m : Nat) (K : MK) (D : DK) (σ : TM α) (δ : TD) : Prop where
 inv : Inv O I OK n0 h m K σ
 dn : Dn OK h m D δ
def DTo {α : Type} (O : StoreOps α) (I : Hp -> (Nat -> Prop) -> Value -> α -> Prop) (OK : Nat -> Prop) (n0 m : Nat) (K : MK) (D : DK) (δ : TD) (v : Value) (σ : TM α) (w : World) : Ending -> World -> Prop :=
 fun en w' => en = .returned v /\ CT O I OK n0 w'.heap m K D σ δ /\ Fr OK w.heap w'.heap
def dUnder (δ : TD) (n : Nat) : Int := δ.x.stack.getD (δ.x.stack.length - 1 - n) 0
def pPops (π : TPool) (f : Int) : Nat -> TPool
 | 0 => π
 | n + 1 => pPop (pPops π f n) f
section
variable {α : Type}
def dPush (σ : TM α) (δ : TD) (v : Int) : Int × TM α := if δ.x.stack.length < 8 then (0,{ σ with pool := pPush σ.pool δ.f v }) else (1,σ)
def dDrop (σ : TM α) (δ : TD) (n : Nat) : TM α := { σ with pool := pPops σ.pool δ.f n }
def dAnswer (σ : TM α) (δ : TD) (n : Nat) (v : Int) : TM α := { σ with pool := pPush (pPops σ.pool δ.f n) δ.f v }
def dGoto (σ : TM α) (δ : TD) (pc : Int) : TM α := { σ with pool := pGoto σ.pool δ.f pc }
def dJump (σ : TM α) (δ : TD) : TM α := dGoto σ δ (IntKind.wrap .i64 (IntKind.wrap .i64 (δ.x.pc + 2) + IntKind.wrap .i64 (2 * δ.arg)))
def dNumber (σ : TM α) (δ : TD) : Int × TM α := dPush σ δ (wInt (if 128 <= δ.arg then IntKind.wrap .i64 (δ.arg - 256) else δ.arg)).1
def dTruth (b : Bool) : Int := if b then 6 else 4
def dIffalse (σ : TM α) (δ : TD) : Int × TM α := if dUnder δ 0 = 4 then (0,dDrop (dJump σ δ) δ 1) else if dUnder δ 0 = 6 then (0,dDrop σ δ 1) else (7,σ)
end
section
variable {α : Type} {O : StoreOps α} {I : Hp -> (Nat -> Prop) -> Value -> α -> Prop} {OK : Nat -> Prop} {n0 : Nat} {m : Nat} {K : MK} {D : DK} {σ : TM α} {δ : TD} {w : World}
theorem CT.nw {h h' : Hp} (hc : CT O I OK n0 h m K D σ δ) (hf : Nw h h') : CT O I OK n0 h' m K D σ δ := ⟨hc.inv.nw hf,hc.dn.fr hf.ok⟩
theorem CT.to {h h' : Hp} {σ' : TM α} (hc : CT O I OK n0 h m K D σ δ) (hM : Inv O I OK n0 h' m K σ') (hf : Fr OK h h') : CT O I OK n0 h' m K D σ' δ := ⟨hM,hc.dn.fr hf⟩
theorem CT.sub {h h' : Hp} (hc : CT O I OK n0 h m K D σ δ) (hf : Nw h h') : CT O I (Sub OK h.size h'.size) h'.size h' m K D σ δ := by
 have hd := hc.dn.fr hf.ok
 have key : ∀ y,¬ OK y -> ¬ Sub OK h.size h'.size y := fun y h1 h2 => h1 (hc.inv.subOK hf.le h2)
 exact ⟨hc.inv.sub hf,hd.bk,key _ hd.nd,hd.sl.mono fun y _ h => key y h,hd.st.mono fun y _ h => key y h,hd.s1,hd.s2⟩
theorem CT.unsub {h0 h : Hp} {a b c : Nat} {σ' : TM α} (hc0 : CT O I OK n0 h0 m K D σ δ) (hc : CT O I (Sub OK a b) c h m K D σ' δ) (hf : Fr OK h0 h) (hb : h0.size <= b) (hbh : b <= h.size) : CT O I OK n0 h m K D σ' δ :=
 ⟨hc0.inv.unsub hc.inv hb hbh,hc0.dn.fr hf⟩
theorem CT.d0 (hc : CT O I OK n0 w.heap m K D σ δ) : w.cell? ⟨D.d,0,none⟩ = some (.pointer (some ⟨m,0,none⟩)) := by rw [hc.dn.bk.cell]; rfl
theorem CT.d1 (hc : CT O I OK n0 w.heap m K D σ δ) : w.cell? ⟨D.d,1,none⟩ = some (.int .i64 δ.p) := by rw [hc.dn.bk.cell]; rfl
theorem CT.d2 (hc : CT O I OK n0 w.heap m K D σ δ) : w.cell? ⟨D.d,2,none⟩ = some (.int .i64 δ.f) := by rw [hc.dn.bk.cell]; rfl
theorem CT.d3 (hc : CT O I OK n0 w.heap m K D σ δ) : w.cell? ⟨D.d,3,none⟩ = some (.int .i64 δ.x.method) := by rw [hc.dn.bk.cell]; rfl
theorem CT.d4 (hc : CT O I OK n0 w.heap m K D σ δ) : w.cell? ⟨D.d,4,none⟩ = some (.int .i64 δ.x.pc) := by rw [hc.dn.bk.cell]; rfl
theorem CT.d5 (hc : CT O I OK n0 w.heap m K D σ δ) : w.cell? ⟨D.d,5,none⟩ = some (.int .i64 δ.x.sender) := by rw [hc.dn.bk.cell]; rfl
theorem CT.d6 (hc : CT O I OK n0 w.heap m K D σ δ) : w.cell? ⟨D.d,6,none⟩ = some (.int .i64 δ.x.home) := by rw [hc.dn.bk.cell]; rfl
theorem CT.d7 (hc : CT O I OK n0 w.heap m K D σ δ) : w.cell? ⟨D.d,7,none⟩ = some (.int .i64 δ.x.serial) := by rw [hc.dn.bk.cell]; rfl
theorem CT.d8 (hc : CT O I OK n0 w.heap m K D σ δ) : w.cell? ⟨D.d,8,none⟩ = some (.int .u32 δ.x.self) := by rw [hc.dn.bk.cell]; rfl
theorem CT.d9 (hc : CT O I OK n0 w.heap m K D σ δ) : w.cell? ⟨D.d,9,none⟩ = some (.slice D.sl.p D.sl.n D.sl.c) := by rw [hc.dn.bk.cell]; rfl
theorem CT.d10 (hc : CT O I OK n0 w.heap m K D σ δ) : w.cell? ⟨D.d,10,none⟩ = some (.slice D.st.p D.st.n D.st.c) := by rw [hc.dn.bk.cell]; rfl
theorem CT.d11 (hc : CT O I OK n0 w.heap m K D σ δ) : w.cell? ⟨D.d,11,none⟩ = some (.int .i64 δ.arg) := by rw [hc.dn.bk.cell]; rfl
theorem act_has_ok (hc : CT O I OK n0 w.heap m K D σ δ) (n : Int) : Calls P F.Z1y #[.pointer (some ⟨D.d,0,none⟩),.int .i64 n] w (Is (.bool (decide (n <= δ.x.stack.length))) w) := by
 refine oZ1y ?_
 refine ⟨_,_,_,hc.d10,?_⟩
 rw [<- hc.dn.st.len]; exact Is.mk _ _
theorem act_room_ok (hc : CT O I OK n0 w.heap m K D σ δ) : Calls P F.Z2e #[.pointer (some ⟨D.d,0,none⟩)] w (Is (.bool (decide (δ.x.stack.length < 8))) w) := by
 refine oZ2e ?_
 refine ⟨_,_,_,hc.d10,?_⟩
 rw [<- hc.dn.st.len,show decide (((δ.x.stack.length : Nat) : Int) < 8) = decide (δ.x.stack.length < 8) by simp; omega]
 exact Is.mk _ _
theorem act_under_ok (hc : CT O I OK n0 w.heap m K D σ δ) {n : Nat} (hn : n < δ.x.stack.length) : Calls P F.Z2i #[.pointer (some ⟨D.d,0,none⟩),.int .i64 (n : Int)] w (Is (.int .u32 (dUnder δ n)) w) := by
 refine oZ2i ?_
 have hl := hc.dn.st.len; have h2 := hc.dn.s2
 refine ⟨_,_,_,CT.d10 (w := w.drew) hc,_,_,_,CT.d10 (w := w.drew) hc,?_⟩
 rw [wrap_id (x := (D.st.n : Int) - 1) (by omega) (by omega),wrap_id (by omega) (by omega),show (D.st.n : Int) - 1 - (n : Int) = ((δ.x.stack.length - 1 - n : Nat) : Int) by omega]
 refine chk_of (by simp; omega) ?_
 refine hc.dn.st.idx1 (w := w.drew) (i := δ.x.stack.length - 1 - n) (getD_some (d := 0) (by omega)) ?_; intro g o _ hcell
 exact ⟨_,hcell,Is.dr _ w 1⟩
theorem act_truth_ok (b : Bool) (w : World) : Calls P F.Z2n #[.bool b] w (Is (.int .u32 (dTruth b)) w) := by
 refine oZ2n ?_
 cases b <;> exact Is.mk _ _
theorem act_num_ok (n : Int) (w : World) : Calls P F.Z2o #[.int .i64 n] w (Is (.int .u32 (wInt n).1) w) := by
 refine oZ2o ?_
 refine (word_Int_ok n w).mono ?_; rintro _ _ ⟨rfl,k,rfl⟩
 exact ⟨_,_,rfl,Is.dr _ _ _⟩
theorem act_push_ok (hc : CT O I OK n0 w.heap m K D σ δ) (v : Int) : Calls P F.Z1s #[.pointer (some ⟨D.d,0,none⟩),.int .u32 v] w (DTo O I OK n0 m K D δ (.int .i64 (dPush σ δ v).1) (dPush σ δ v).2 w) := by
 refine oZ1s ?_
 refine (act_room_ok hc).mono ?_; rintro _ _ ⟨rfl,n,rfl⟩
 refine ⟨_,rfl,?_⟩
 unfold dPush
 by_cases h : δ.x.stack.length < 8
 ·rw [if_pos h,decide_eq_true h]
  simp only [Bool.not_true,br_false]
  refine ⟨_,CT.d0 (w := (dr w n).drew) hc,?_⟩
  rw [onPtr_some]
  refine ⟨_,by rw [Nat.zero_add]; exact Inv.c6 (w := (dr w n).drew) hc.inv,_,CT.d2 (w := (dr w n).drew) hc,?_⟩
  obtain ⟨o,ho,hP,back⟩ := hc.inv.pool
  refine (frame_Push_ok (w := (dr w n).drew) hP δ.f v).mono ?_; rintro _ w2 ⟨t,rfl,hP2,hF2⟩
  obtain ⟨hM2,hFo2⟩ := back _ _ hP2 hF2
  have hc2 := hc.to hM2 hFo2
  exact ⟨_,rfl,⟨hc2.d0,trivial⟩,rfl,hc2,hFo2⟩
 ·rw [if_neg h,decide_eq_false h]
  exact ⟨rfl,hc,Fr.refl _ _⟩
theorem act_drop_ok (hc : CT O I OK n0 w.heap m K D σ δ) (n : Nat) (hn : n <= 1000) : Calls P F.Z2y #[.pointer (some ⟨D.d,0,none⟩),.int .i64 (n : Int)] w (DTo O I OK n0 m K D δ (.tuple #[]) (dDrop σ δ n) w) := by
 refine oZ2y ?_
 refine ⟨fun t w' => ∃ k : Nat,t = (k : Int) /\ k <= n /\ CT O I OK n0 w'.heap m K D (dDrop σ δ k) δ /\ Fr OK w.heap w'.heap,fun t _ => n - t.toNat,⟨0,rfl,Nat.zero_le _,hc,Fr.refl _ _⟩,?_⟩
 rintro t w1 ⟨k,rfl,hk,hc1,hF1⟩
 refine br_of (fun h1 => ?_) (fun h1 => ?_) <;> simp only [ZJ,ZK,ZL,ZM,ZN,ZO,ZP,ZQ,ZR] at h1
 ·refine ⟨_,CT.d0 (w := w1.drew) hc1,?_⟩
  rw [onPtr_some]
  refine ⟨_,by rw [Nat.zero_add]; exact Inv.c6 (w := w1.drew) hc1.inv,_,CT.d2 (w := w1.drew) hc1,?_⟩
  obtain ⟨o,ho,hP,back⟩ := hc1.inv.pool
  refine (frame_Pop_ok (w := w1.drew) hP δ.f).mono ?_; rintro _ w2 ⟨v,t,rfl,hP2,hF2⟩
  obtain ⟨hM2,hFo2⟩ := back _ _ hP2 hF2
  have hc2 := hc1.to hM2 hFo2
  rw [wrap_id (by omega) (by omega)]
  exact ⟨_,_,rfl,⟨hc2.d0,trivial⟩,⟨k + 1,rfl,by omega,hc2,hF1.trans' hFo2⟩,by (first | omega | (dsimp only; omega))⟩
 ·obtain rfl : k = n := by omega
  exact ⟨rfl,hc1,hF1⟩
theorem act_answer_ok (hc : CT O I OK n0 w.heap m K D σ δ) (n : Nat) (hn : n <= 1000) (v : Int) : Calls P F.Z2m #[.pointer (some ⟨D.d,0,none⟩),.int .i64 (n : Int),.int .u32 v] w (DTo O I OK n0 m K D δ (.int .i64 0) (dAnswer σ δ n v) w) := by
 refine oZ2m ?_
 refine (act_drop_ok hc n hn).mono ?_; rintro _ w1 ⟨rfl,hc1,hF1⟩
 refine ⟨rfl,_,CT.d0 (w := w1.drew) hc1,?_⟩
 rw [onPtr_some]
 refine ⟨_,by rw [Nat.zero_add]; exact Inv.c6 (w := w1.drew) hc1.inv,_,CT.d2 (w := w1.drew) hc1,?_⟩
 obtain ⟨o,ho,hP,back⟩ := hc1.inv.pool
 refine (frame_Push_ok (w := w1.drew) hP δ.f v).mono ?_; rintro _ w2 ⟨t,rfl,hP2,hF2⟩
 obtain ⟨hM2,hFo2⟩ := back _ _ hP2 hF2
 have hc2 := hc1.to hM2 hFo2
 exact ⟨_,rfl,⟨hc2.d0,trivial⟩,rfl,hc2,hF1.trans' hFo2⟩
theorem act_jump_ok (hc : CT O I OK n0 w.heap m K D σ δ) : Calls P F.Z1v #[.pointer (some ⟨D.d,0,none⟩)] w (DTo O I OK n0 m K D δ (.tuple #[]) (dJump σ δ) w) := by
 refine oZ1v ?_
 refine ⟨_,CT.d0 (w := w.drew) hc,?_⟩
 rw [onPtr_some]
 refine ⟨_,by rw [Nat.zero_add]; exact Inv.c6 (w := w.drew) hc.inv,_,CT.d2 (w := w.drew) hc,_,CT.d4 (w := w.drew) hc,_,CT.d11 (w := w.drew) hc,?_⟩
 obtain ⟨o,ho,hP,back⟩ := hc.inv.pool
 refine (frame_Goto_ok (w := w.drew) hP δ.f _).mono ?_; rintro _ w2 ⟨rfl,hP2,hF2⟩
 obtain ⟨hM2,hFo2⟩ := back _ _ hP2 hF2
 have hc2 := hc.to hM2 hFo2
 exact ⟨_,rfl,⟨hc2.d11,hc2.d4,hc2.d0,trivial⟩,rfl,hc2,hFo2⟩
theorem act_number_ok (hc : CT O I OK n0 w.heap m K D σ δ) : Calls P F.Z1u #[.pointer (some ⟨D.d,0,none⟩)] w (DTo O I OK n0 m K D δ (.int .i64 (dNumber σ δ).1) (dNumber σ δ).2 w) := by
 refine oZ1u ?_
 unfold vZ1u
 refine ⟨_,hc.d11,?_⟩
 simp only [join_eq]
 unfold dNumber
 refine br_of (fun h => ?_) (fun h => ?_) <;> simp only [ZJ,ZK,ZL,ZM,ZN,ZO,ZP,ZQ,ZR] at h
 ·rw [if_pos h]
  refine (word_Int_ok _ w).mono ?_; rintro _ _ ⟨rfl,n,rfl⟩
  refine ⟨_,_,rfl,?_⟩
  refine (act_push_ok (w := dr w n) hc _).mono ?_; rintro _ w2 ⟨rfl,hc2,hF2⟩
  exact ⟨_,rfl,rfl,hc2,hF2⟩
 ·rw [if_neg (by omega)]
  refine (word_Int_ok _ w).mono ?_; rintro _ _ ⟨rfl,n,rfl⟩
  refine ⟨_,_,rfl,?_⟩
  refine (act_push_ok (w := dr w n) hc _).mono ?_; rintro _ w2 ⟨rfl,hc2,hF2⟩
  exact ⟨_,rfl,rfl,hc2,hF2⟩
theorem act_iffalse_ok (hc : CT O I OK n0 w.heap m K D σ δ) (h1 : 0 < δ.x.stack.length) : Calls P F.Z2z #[.pointer (some ⟨D.d,0,none⟩)] w (DTo O I OK n0 m K D δ (.int .i64 (dIffalse σ δ).1) (dIffalse σ δ).2 w) := by
 refine oZ2z ?_
 refine (act_under_ok hc h1).mono ?_; rintro _ _ ⟨rfl,n,rfl⟩
 refine ⟨_,rfl,?_⟩
 unfold dIffalse
 refine br_of (fun h2 => ?_) (fun h2 => ?_) <;> simp only [ZJ,ZK,ZL,ZM,ZN,ZO,ZP,ZQ,ZR] at h2
 ·rw [if_pos h2]
  refine (act_jump_ok (w := dr w n) hc).mono ?_; rintro _ w2 ⟨rfl,hc2,hF2⟩
  refine ⟨rfl,(act_drop_ok hc2 1 (by omega)).mono ?_⟩; rintro _ w3 ⟨rfl,hc3,hF3⟩
  exact ⟨rfl,rfl,hc3,Fr.trans' (h := w.heap) hF2 hF3⟩
 rw [if_neg h2]
 refine br_of (fun h3 => ?_) (fun h3 => ?_) <;> simp only [ZJ,ZK,ZL,ZM,ZN,ZO,ZP,ZQ,ZR] at h3
 ·rw [if_pos h3]
  refine (act_drop_ok (w := dr w n) hc 1 (by omega)).mono ?_; rintro _ w3 ⟨rfl,hc3,hF3⟩
  exact ⟨rfl,rfl,hc3,hF3⟩
 ·rw [if_neg h3]; exact ⟨rfl,hc,Fr.refl _ _⟩
end
end
section
section
variable {α : Type} (O : StoreOps α)
def mGet (σ : TM α) (d i : Int) : (Int × Bool) × TM α := ((O.get σ.s d i).1,{ σ with s := (O.get σ.s d i).2 })
def mPut (σ : TM α) (d i v : Int) : Bool × TM α := ((O.put σ.s d i v).1,{ σ with s := (O.put σ.s d i v).2 })
def mFlds (σ : TM α) (d : Int) : Int × TM α := ((O.flds σ.s d).1,{ σ with s := (O.flds σ.s d).2 })
def mSwap (σ : TM α) (a b : Int) : Bool × TM α := ((O.swap σ.s a b).1,{ σ with s := (O.swap σ.s a b).2 })
def dAlloc (σ : TM α) (c f : Int) : Int × TM α := ((O.alloc σ.s c f).1,{ σ with why := 1,s := (O.alloc σ.s c f).2 })
def dPlace (σ : TM α) (δ : TD) (op : Int) : Int × TM α :=
 if op = 1 then
  if ¬ δ.x.stack.length < 8 then (1,(mGet O σ (wID δ.x.self).1 δ.arg).2)
  else if (mGet O σ (wID δ.x.self).1 δ.arg).1.2 = false then (3,(mGet O σ (wID δ.x.self).1 δ.arg).2)
  else dPush (mGet O σ (wID δ.x.self).1 δ.arg).2 δ (mGet O σ (wID δ.x.self).1 δ.arg).1.1
 else if δ.x.stack.length < 1 then (1,σ)
 else if op = 10 then (0,{ σ with pool := pSlot σ.pool δ.f δ.arg (dUnder δ 0) })
 else if (mCls O σ (wID δ.x.self).1).1 = 0 then (2,(mCls O σ (wID δ.x.self).1).2)
 else (if (mPut O (mCls O σ (wID δ.x.self).1).2 (wID δ.x.self).1 δ.arg (dUnder δ 0)).1 then 0 else 3,(mPut O (mCls O σ (wID δ.x.self).1).2 (wID δ.x.self).1 δ.arg (dUnder δ 0)).2)
def mkPut (σ : TM α) (d : Int) (l : List Int) : Nat -> TM α
 | 0 => σ
 | k + 1 => (mPut O (mkPut σ d l k) d k (wInt (l.getD k 0)).1).2
def TM.litN (σ : TM α) (δ : TD) : Int := ((σ.meth δ.x.method).lits.getD δ.arg.toNat default).n
def dMake (σ : TM α) (δ : TD) (op : Int) : Int × TM α :=
 if ¬ δ.x.stack.length < 8 then (1,σ)
 else
  let a := dAlloc O σ (if op = 20 then σ.litN δ else 0) (if op = 20 then (σ.u.classes.getD (σ.litN δ).toNat default).fields else 4)
  if a.1 < 0 then (-1,a.2)
  else if op = 18 then dPush (mPut O (mkPut O a.2 a.1 [σ.litN δ,δ.x.home,a.2.kept.getD δ.f.toNat 0] 3) a.1 3 δ.x.self).2 δ (wOop a.1)
  else dPush a.2 δ (wOop a.1)
def dOpen (σ : TM α) (w : Int) : (Int × Bool) × TM α :=
 if (mObject O σ w).1.2 = false then ((0,false),(mObject O σ w).2)
 else if (mCls O (mObject O σ w).2 (mObject O σ w).1.1).1 = 0 then ((0,false),(mCls O (mObject O σ w).2 (mObject O σ w).1.1).2)
 else (((mObject O σ w).1.1,true),(mCls O (mObject O σ w).2 (mObject O σ w).1.1).2)
def dReckon (σ : TM α) (δ : TD) : Int × TM α :=
 if (wLess (dUnder δ 1) (dUnder δ 0)).2 = false then (2,σ)
 else
  let r : Int × Bool := if δ.arg = 0 then wAdd (dUnder δ 1) (dUnder δ 0) else if δ.arg = 1 then wSub (dUnder δ 1) (dUnder δ 0) else if δ.arg = 2 then wMul (dUnder δ 1) (dUnder δ 0) else if δ.arg = 3 then wDiv (dUnder δ 1) (dUnder δ 0) else (dTruth (wLess (dUnder δ 1) (dUnder δ 0)).1,true)
  if r.2 = false then (3,σ) else (0,dAnswer σ δ 2 r.1)
end
section
variable {α : Type} {O : StoreOps α} {I : Hp -> (Nat -> Prop) -> Value -> α -> Prop} {OK : Nat -> Prop} {n0 : Nat} {m : Nat} {K : MK} {D : DK} {σ : TM α} {δ : TD} {w : World}
theorem act_alloc_ok (hc : CT O I OK n0 w.heap m K D σ δ) (hz : O.size σ.s < 1000000) (c f : Int) : Calls P F.Z2j #[.pointer (some ⟨D.d,0,none⟩),.int .i64 c,.int .i64 f] w (DTo O I OK n0 m K D δ (.int .i64 (dAlloc O σ c f).1) (dAlloc O σ c f).2 w) := by
 refine oZ2j ?_
 refine ⟨_,hc.d0,?_⟩
 rw [onPtr_some]
 refine hc.inv.swhy 1 ?_; intro w1 hM1 hF1 hz1 hm1
 have hc1 := hc.to hM1 hF1
 refine ⟨_,hc1.d0,?_⟩
 rw [onPtr_some]
 refine ⟨.iface K.st K.s,hc1.inv.c5,?_⟩
 rw [onIface_some]
 obtain ⟨o_w2,ho_w2,hS_w2,back_w2⟩ := hc1.inv.store
 obtain ⟨fn_w2,rc_w2,hm1_w2,hm2_w2,hm3_w2⟩ := hc1.inv.sp.alloc c f hS_w2 hz
 refine ⟨fn_w2,rc_w2,hm1_w2,?_⟩
 rw [hm2_w2,chk_true]
 refine hm3_w2.mono ?_; rintro _ w2 ⟨rfl,hS'_w2,hF_w2⟩
 obtain ⟨hM_w2,hFo_w2⟩ := back_w2 _ _ hS'_w2 hF_w2
 have hc_w2 := hc1.to hM_w2 hFo_w2
 exact ⟨_,rfl,rfl,hc_w2,hF1.trans' hFo_w2⟩
theorem act_place_ok (hc : CT O I OK n0 w.heap m K D σ δ) (op : Int) : Calls P F.Z1t #[.pointer (some ⟨D.d,0,none⟩),.int .i64 op] w (DTo O I OK n0 m K D δ (.int .i64 (dPlace O σ δ op).1) (dPlace O σ δ op).2 w) := by
 refine oZ1t ?_
 refine ⟨_,hc.d8,?_⟩
 refine (word_ID_ok δ.x.self w).mono ?_; rintro _ _ ⟨rfl,n,rfl⟩
 refine ⟨_,_,rfl,?_⟩
 unfold dPlace
 have hid := wID_le δ.x.self
 generalize (wID δ.x.self).1 = id at *
 refine br_of (fun h1 => ?_) (fun h1 => ?_) <;> simp only [ZJ,ZK,ZL,ZM,ZN,ZO,ZP,ZQ,ZR] at h1
 ·rw [if_pos h1]
  have hc0 : CT O I OK n0 (dr w n).drew.heap m K D σ δ := hc
  refine ⟨_,hc0.d0,?_⟩
  rw [onPtr_some]
  refine ⟨.iface K.st K.s,hc0.inv.c5,_,hc0.d11,?_⟩
  rw [nilVC_iface,onIface_some]
  obtain ⟨o_w2,ho_w2,hS_w2,back_w2⟩ := hc0.inv.store
  obtain ⟨fn_w2,rc_w2,hm1_w2,hm2_w2,hm3_w2⟩ := hc0.inv.sp.get id δ.arg hS_w2 hid
  refine ⟨fn_w2,rc_w2,hm1_w2,?_⟩
  rw [hm2_w2,chk_true]
  refine hm3_w2.mono ?_; rintro _ w2 ⟨rfl,hS'_w2,hF_w2⟩
  obtain ⟨hM_w2,hFo_w2⟩ := back_w2 _ _ hS'_w2 hF_w2
  have hc_w2 := hc0.to hM_w2 hFo_w2
  refine ⟨_,_,rfl,⟨hc_w2.inv.c5,hc_w2.d0,trivial⟩,?_⟩
  refine (act_room_ok hc_w2).mono ?_; rintro _ _ ⟨rfl,n2,rfl⟩
  refine ⟨_,rfl,?_⟩
  by_cases h8 : δ.x.stack.length < 8
  ·rw [decide_eq_true h8,if_neg (by omega)]
   simp only [Bool.not_true,br_false]
   cases hg : (mGet O σ id δ.arg).1.2 with
   | false =>
    rw [show (O.get σ.s id δ.arg).1.2 = false from hg]
    exact ⟨rfl,hc_w2,hFo_w2⟩
   | true =>
    rw [show (O.get σ.s id δ.arg).1.2 = true from hg]
    simp only [Bool.not_true,br_false,Bool.true_eq_false,if_false]
    refine (act_push_ok (w := dr w2 n2) hc_w2 _).mono ?_; rintro _ w3 ⟨rfl,hc3,hF3⟩
    exact ⟨_,rfl,rfl,hc3,Fr.trans' (h := w.heap) hFo_w2 hF3⟩
  ·rw [decide_eq_false h8,if_pos (by omega)]
   exact ⟨rfl,hc_w2,hFo_w2⟩
 rw [if_neg h1]
 refine (act_has_ok (w := dr w n) hc 1).mono ?_; rintro _ _ ⟨rfl,n2,rfl⟩
 refine ⟨_,rfl,?_⟩
 by_cases h2 : δ.x.stack.length < 1
 ·rw [if_pos h2,show decide ((1 : Int) <= δ.x.stack.length) = false by simp; omega]
  exact ⟨rfl,hc,Fr.refl _ _⟩
 rw [if_neg h2,show decide ((1 : Int) <= δ.x.stack.length) = true by simp; omega]
 simp only [Bool.not_true,br_false]
 have hcA : CT O I OK n0 (dr (dr w n) n2).heap m K D σ δ := hc
 have hFA : Fr OK w.heap (dr (dr w n) n2).heap := Fr.refl _ _
 generalize dr (dr w n) n2 = wa at *
 refine br_of (fun h3 => ?_) (fun h3 => ?_) <;> simp only [ZJ,ZK,ZL,ZM,ZN,ZO,ZP,ZQ,ZR] at h3
 ·rw [if_pos h3]
  have hcB : CT O I OK n0 wa.drew.heap m K D σ δ := hcA
  refine ⟨_,hcB.d0,?_⟩
  rw [onPtr_some]
  refine ⟨_,hcB.inv.c6,_,hcB.d2,_,hcB.d11,?_⟩
  refine (act_under_ok hcB (n := 0) (by omega)).mono ?_; rintro _ _ ⟨rfl,n3,rfl⟩
  have hcC : CT O I OK n0 (dr wa.drew n3).heap m K D σ δ := hcB
  refine ⟨_,rfl,⟨hcC.d11,hcC.d2,hcC.inv.c6,hcC.d0,trivial⟩,?_⟩
  obtain ⟨o,ho,hP,back⟩ := hcC.inv.pool
  refine (frame_Slot_ok hP δ.f δ.arg _).mono ?_; rintro _ w3 ⟨t,rfl,hP3,hF3⟩
  obtain ⟨hM3,hFo3⟩ := back _ _ hP3 hF3
  have hc3 := hcC.to hM3 hFo3
  exact ⟨_,rfl,⟨hc3.d0,trivial⟩,rfl,hc3,hFA.trans' (h1 := wa.heap) hFo3⟩
 rw [if_neg h3]
 refine ⟨_,hcA.d0,?_⟩
 rw [onPtr_some]
 refine ⟨.iface K.st K.s,hcA.inv.c5,?_⟩
 rw [onIface_some]
 obtain ⟨o_w3,ho_w3,hS_w3,back_w3⟩ := hcA.inv.store
 obtain ⟨fn_w3,rc_w3,hm1_w3,hm2_w3,hm3_w3⟩ := hcA.inv.sp.cls id hS_w3 hid
 refine ⟨fn_w3,rc_w3,hm1_w3,?_⟩
 rw [hm2_w3,chk_true]
 refine hm3_w3.mono ?_; rintro _ w3 ⟨rfl,hS'_w3,hF_w3⟩
 obtain ⟨hM_w3,hFo_w3⟩ := back_w3 _ _ hS'_w3 hF_w3
 have hc_w3 := hcA.to hM_w3 hFo_w3
 refine ⟨_,rfl,?_⟩
 refine br_of (fun h4 => ?_) (fun h4 => ?_) <;> simp only [ZJ,ZK,ZL,ZM,ZN,ZO,ZP,ZQ,ZR] at h4
 ·rw [if_pos (show (mCls O σ id).1 = 0 from h4)]; exact ⟨rfl,hc_w3,hFA.trans' hFo_w3⟩
 rw [if_neg (show ¬ (mCls O σ id).1 = 0 from h4)]
 have hcB : CT O I OK n0 w3.drew.heap m K D _ δ := hc_w3
 refine ⟨_,hcB.d0,?_⟩
 rw [onPtr_some]
 refine ⟨.iface K.st K.s,hcB.inv.c5,_,hcB.d11,?_⟩
 rw [nilVC_iface]
 refine (act_under_ok hcB (n := 0) (by omega)).mono ?_; rintro _ _ ⟨rfl,n3,rfl⟩
 have hcC : CT O I OK n0 (dr w3.drew n3).heap m K D _ δ := hcB
 refine ⟨_,rfl,⟨hcC.d11,hcC.inv.c5,hcC.d0,trivial⟩,?_⟩
 rw [onIface_some]
 obtain ⟨o_w4,ho_w4,hS_w4,back_w4⟩ := hcC.inv.store
 obtain ⟨fn_w4,rc_w4,hm1_w4,hm2_w4,hm3_w4⟩ := hcC.inv.sp.put id δ.arg (dUnder δ 0) hS_w4 hid
 refine ⟨fn_w4,rc_w4,hm1_w4,?_⟩
 rw [hm2_w4,chk_true]
 refine hm3_w4.mono ?_; rintro _ w4 ⟨rfl,hS'_w4,hF_w4⟩
 obtain ⟨hM_w4,hFo_w4⟩ := back_w4 _ _ hS'_w4 hF_w4
 have hc_w4 := hcC.to hM_w4 hFo_w4
 refine ⟨_,rfl,⟨hc_w4.inv.c5,hc_w4.d0,trivial⟩,?_⟩
 have hF4 : Fr OK w.heap w4.heap := (hFA.trans' hFo_w3).trans' (h1 := w3.heap) hFo_w4
 refine br_of (fun h => ?_) (fun h => ?_) <;> simp only [ZL,ZM] at h
 ·refine ⟨?_,hc_w4,hF4⟩
  rw [show (mPut O (mCls O σ id).2 id δ.arg (dUnder δ 0)).1 = false from h]; rfl
 ·refine ⟨?_,hc_w4,hF4⟩
  rw [show (mPut O (mCls O σ id).2 id δ.arg (dUnder δ 0)).1 = true from h]; rfl
theorem act_open_ok (hc : CT O I OK n0 w.heap m K D σ δ) (x : Int) : Calls P F.Z3o #[.pointer (some ⟨D.d,0,none⟩),.int .u32 x] w (DTo O I OK n0 m K D δ (.tuple #[.int .i64 (dOpen O σ x).1.1,.bool (dOpen O σ x).1.2]) (dOpen O σ x).2 w) := by
 refine oZ3o ?_
 refine ⟨_,hc.d0,?_⟩
 refine (act_object_ok hc.inv x).mono ?_; rintro _ w1 ⟨rfl,hM1,hF1⟩
 have hc1 := hc.to hM1 hF1
 refine ⟨_,_,rfl,?_⟩
 have hle := mObject_le (O := O) σ x
 unfold dOpen
 cases h : (mObject O σ x).1.2 with
 | false => simp only [Bool.not_false,br_true,if_true]; exact ⟨rfl,hc1,hF1⟩
 | true =>
  simp only [Bool.not_true,br_false,Bool.true_eq_false,if_false]
  refine ⟨_,hc1.d0,?_⟩
  rw [onPtr_some]
  refine ⟨.iface K.st K.s,hc1.inv.c5,?_⟩
  rw [onIface_some]
  obtain ⟨o_w2,ho_w2,hS_w2,back_w2⟩ := hc1.inv.store
  obtain ⟨fn_w2,rc_w2,hm1_w2,hm2_w2,hm3_w2⟩ := hc1.inv.sp.cls _ hS_w2 hle
  refine ⟨fn_w2,rc_w2,hm1_w2,?_⟩
  rw [hm2_w2,chk_true]
  refine hm3_w2.mono ?_; rintro _ w2 ⟨rfl,hS'_w2,hF_w2⟩
  obtain ⟨hM_w2,hFo_w2⟩ := back_w2 _ _ hS'_w2 hF_w2
  have hc_w2 := hc1.to hM_w2 hFo_w2
  refine ⟨_,rfl,?_⟩
  refine br_of (fun h4 => ?_) (fun h4 => ?_) <;> simp only [ZJ,ZK,ZL,ZM,ZN,ZO,ZP,ZQ,ZR] at h4
  ·rw [if_pos (show (mCls O (mObject O σ x).2 (mObject O σ x).1.1).1 = 0 from h4)]; exact ⟨rfl,hc_w2,hF1.trans' hFo_w2⟩
  ·rw [if_neg (show ¬ (mCls O (mObject O σ x).2 (mObject O σ x).1.1).1 = 0 from h4)]; exact ⟨rfl,hc_w2,hF1.trans' hFo_w2⟩
theorem dOpen_le (σ : TM α) (x : Int) : (dOpen O σ x).1.1 <= mostI := by
 have := mObject_le (O := O) σ x
 unfold dOpen
 split
 ·simp [mostI]
 ·split
  ·simp [mostI]
  ·exact this
theorem act_reckon_ok (hc : CT O I OK n0 w.heap m K D σ δ) (h2 : 2 <= δ.x.stack.length) : Calls P F.Z2l #[.pointer (some ⟨D.d,0,none⟩)] w (DTo O I OK n0 m K D δ (.int .i64 (dReckon σ δ).1) (dReckon σ δ).2 w) := by
 refine oZ2l ?_
 unfold vZ2l
 simp only [join_eq]
 refine (act_under_ok hc (n := 1) (by omega)).mono ?_; rintro _ _ ⟨rfl,n,rfl⟩
 refine ⟨_,rfl,?_⟩
 refine (act_under_ok (w := dr w n) hc (n := 0) (by omega)).mono ?_; rintro _ _ ⟨rfl,n1,rfl⟩
 refine ⟨_,rfl,?_⟩
 refine (word_Less_ok _ _ (dr (dr w n) n1)).mono ?_; rintro _ _ ⟨rfl,n2,rfl⟩
 refine ⟨_,_,rfl,?_⟩
 unfold dReckon
 generalize dUnder δ 1 = a
 generalize dUnder δ 0 = b
 cases h : (wLess a b).2 with
 | false => simp only [Bool.not_false,br_true,if_true]; exact ⟨rfl,hc,Fr.refl _ _⟩
 | true =>
  simp only [Bool.not_true,br_false,Bool.true_eq_false,if_false]
  refine (act_truth_ok (wLess a b).1 _).mono ?_; rintro _ _ ⟨rfl,n3,rfl⟩
  refine ⟨_,rfl,?_⟩
  have hcA : CT O I OK n0 (dr (dr (dr (dr w n) n1) n2) n3).heap m K D σ δ := hc
  have hFA : Fr OK w.heap (dr (dr (dr (dr w n) n1) n2) n3).heap := Fr.refl _ _
  generalize dr (dr (dr (dr w n) n1) n2) n3 = wa at *
  refine ⟨_,hcA.d11,?_⟩
  refine br_of (fun h0 => ?_) (fun h0 => ?_) <;> simp only [ZJ,ZK,ZL,ZM,ZN,ZO,ZP,ZQ,ZR] at h0
  ·simp only [h0,if_true]
   refine (word_Add_ok a b wa).mono ?_; rintro _ _ ⟨rfl,n4,rfl⟩
   refine ⟨_,_,rfl,?_⟩
   refine br_of (fun hr => ?_) (fun hr => ?_) <;> simp only [ZL,ZM] at hr
   ·rw [hr]; simp only [if_true]; exact ⟨rfl,hcA,hFA⟩
   ·simp only [hr,Bool.true_eq_false,if_false]
    refine (act_answer_ok (show CT O I OK n0 (dr wa n4).heap m K D σ δ from hcA) 2 (by omega) _).mono ?_; rintro _ w5 ⟨rfl,hc5,hF5⟩
    exact ⟨_,rfl,rfl,hc5,hFA.trans' hF5⟩
  simp only [h0,if_false]
  refine br_of (fun h1 => ?_) (fun h1 => ?_) <;> simp only [ZJ,ZK,ZL,ZM,ZN,ZO,ZP,ZQ,ZR] at h1
  ·simp only [h1,if_true]
   refine (word_Sub_ok a b wa).mono ?_; rintro _ _ ⟨rfl,n4,rfl⟩
   refine ⟨_,_,rfl,?_⟩
   refine br_of (fun hr => ?_) (fun hr => ?_) <;> simp only [ZL,ZM] at hr
   ·rw [hr]; simp only [if_true]; exact ⟨rfl,hcA,hFA⟩
   ·simp only [hr,Bool.true_eq_false,if_false]
    refine (act_answer_ok (show CT O I OK n0 (dr wa n4).heap m K D σ δ from hcA) 2 (by omega) _).mono ?_; rintro _ w5 ⟨rfl,hc5,hF5⟩
    exact ⟨_,rfl,rfl,hc5,hFA.trans' hF5⟩
  simp only [h1,if_false]
  refine br_of (fun h3 => ?_) (fun h3 => ?_) <;> simp only [ZJ,ZK] at h3
  ·simp only [h3,if_true]
   refine (word_Mul_ok a b wa).mono ?_; rintro _ _ ⟨rfl,n4,rfl⟩
   refine ⟨_,_,rfl,?_⟩
   refine br_of (fun hr => ?_) (fun hr => ?_) <;> simp only [ZL,ZM] at hr
   ·rw [hr]; simp only [if_true]; exact ⟨rfl,hcA,hFA⟩
   ·simp only [hr,Bool.true_eq_false,if_false]
    refine (act_answer_ok (show CT O I OK n0 (dr wa n4).heap m K D σ δ from hcA) 2 (by omega) _).mono ?_; rintro _ w5 ⟨rfl,hc5,hF5⟩
    exact ⟨_,rfl,rfl,hc5,hFA.trans' hF5⟩
  simp only [h3,if_false]
  refine br_of (fun h4 => ?_) (fun h4 => ?_) <;> simp only [ZJ,ZK] at h4
  ·simp only [h4,if_true]
   refine (word_Div_ok a b wa).mono ?_; rintro _ _ ⟨rfl,n4,rfl⟩
   refine ⟨_,_,rfl,?_⟩
   refine br_of (fun hr => ?_) (fun hr => ?_) <;> simp only [ZL,ZM] at hr
   ·rw [hr]; simp only [if_true]; exact ⟨rfl,hcA,hFA⟩
   ·simp only [hr,Bool.true_eq_false,if_false]
    refine (act_answer_ok (show CT O I OK n0 (dr wa n4).heap m K D σ δ from hcA) 2 (by omega) _).mono ?_; rintro _ w5 ⟨rfl,hc5,hF5⟩
    exact ⟨_,rfl,rfl,hc5,hFA.trans' hF5⟩
  simp only [h4,if_false,Bool.not_true,br_false,Bool.true_eq_false]
  refine (act_answer_ok hcA 2 (by omega) _).mono ?_; rintro _ w5 ⟨rfl,hc5,hF5⟩
  exact ⟨_,rfl,rfl,hc5,hFA.trans' hF5⟩
theorem Inv.cfld (hM : Inv O I OK n0 w.heap m K σ) {i : Int} (hi : 0 <= i /\ i < σ.u.classes.length) {Q : Nat -> Nat -> Prop} (H : ∀ (o : Nat -> Prop) (r : CClass) (g o' : Nat),IsClass w.heap o r (σ.u.classes.getD i.toNat default) -> holds w g (o' + i.toNat * 4) r.vs -> Q g o') : (0 <= i /\ i < K.c.classes.n) /\ onPtr K.c.classes.p Q := by
 obtain ⟨o,_,hu⟩ := hM.unit
 obtain ⟨lm,hm,hmA⟩ := hu.classes
 have hn : K.c.classes.n = σ.u.classes.length := by rw [<- hm.len,hmA.len]
 obtain ⟨r,x,hr,hx,hrx⟩ := hmA.getL (i := i.toNat) (by omega)
 have ex : σ.u.classes.getD i.toNat default = x := by simp [List.getD_eq_getElem?_getD,hx]
 refine ⟨by omega,hm.idx hr fun g o' _ hh => H o r g o' (by rw [ex]; exact hrx) hh⟩
theorem act_make_ok (hc : CT O I OK n0 w.heap m K D σ δ) (hz : O.size σ.s < 1000000) {op : Int} (hm : 0 <= δ.x.method /\ δ.x.method < σ.u.methods.length) (ha : 0 <= δ.arg /\ δ.arg < (σ.meth δ.x.method).lits.length) (hop : op = 20 -> 0 <= σ.litN δ /\ σ.litN δ < σ.u.classes.length) (hf : 0 <= δ.f /\ δ.f < 24) :
  Calls P F.Z1w #[.pointer (some ⟨D.d,0,none⟩),.int .i64 op] w (DTo O I OK n0 m K D δ (.int .i64 (dMake O σ δ op).1) (dMake O σ δ op).2 w) := by
 refine oZ1w ?_
 unfold vZ1w
 refine (act_room_ok hc).mono ?_; rintro _ _ ⟨rfl,n,rfl⟩
 refine ⟨_,rfl,?_⟩
 unfold dMake
 by_cases h8 : δ.x.stack.length < 8
 case neg =>
  rw [decide_eq_false h8,if_pos (by omega)]
  exact ⟨rfl,hc,Fr.refl _ _⟩
 rw [decide_eq_true h8,if_neg (by omega)]
 simp only [Bool.not_true,br_false,join_eq]
 have hc0 : CT O I OK n0 (dr w n).drew.heap m K D σ δ := hc
 have hF0 : Fr OK w.heap (dr w n).drew.heap := Fr.refl _ _
 rw [wv_eq]
 generalize (dr w n).drew = wa at *
 refine ⟨_,hc0.d0,?_⟩
 rw [onPtr_some]
 refine ⟨_,_,_,hc0.inv.c2,_,hc0.d3,?_⟩
 obtain ⟨h0,h1⟩ := (hc0.inv.meth hm (Q := fun _ _ => True) (fun _ _ _ _ _ _ => trivial)).1
 refine chk_of (by simp; omega) ((hc0.inv.meth hm (fun o r g o' hr hh => ?_)).2)
 refine ⟨r.lits.p,r.lits.n,r.lits.c,hh.2.2.1,_,hc0.d11,?_⟩
 have hln := hr.lits.len
 refine chk_of (by simp; omega) ?_
 refine hr.lits.idx (i := δ.arg.toNat) (getD_some (d := default) (by omega)) ?_; intro g1 o1 _ hh1
 refine ⟨_,hh1.2,?_⟩
 have hlit : ((σ.meth δ.x.method).lits.getD δ.arg.toNat default).n = σ.litN δ := rfl
 rw [hlit]
 refine br_of (fun h20 => ?_) (fun h20 => ?_) <;> simp only [ZJ,ZK,ZL,ZM,ZN,ZO,ZP,ZQ,ZR] at h20
 ·simp only [h20,if_true]
  have hc1 : CT O I OK n0 wa.drew.heap m K D σ δ := hc0
  refine ⟨_,hc1.d0,?_⟩
  rw [onPtr_some]
  refine ⟨_,_,_,hc1.inv.c1,?_⟩
  obtain ⟨k0,k1⟩ := (hc1.inv.cfld (hop h20) (Q := fun _ _ => True) (fun _ _ _ _ _ _ => trivial)).1
  refine chk_of (by simp; omega) ((hc1.inv.cfld (hop h20) (fun o2 r2 g2 o2' hr2 hh2 => ?_)).2)
  refine ⟨_,hh2.2.2.1,?_⟩
  rw [hr2.fields]
  refine (act_alloc_ok hc1 hz _ _).mono ?_; rintro _ w2 ⟨rfl,hc2,hF2⟩
  refine ⟨_,rfl,?_⟩
  generalize dAlloc O σ (σ.litN δ) (σ.u.classes.getD (σ.litN δ).toNat default).fields = A at *
  refine br_of (fun hneg => ?_) (fun hneg => ?_) <;> simp only [ZJ,ZK,ZL,ZM,ZN,ZO,ZP,ZQ,ZR] at hneg
  ·rw [if_pos hneg]; exact ⟨rfl,hc2,hF0.trans' (h1 := wa.heap) hF2⟩
  rw [if_neg (by omega),show decide ((20 : Int) = 18) = false by decide,br_false,if_neg (by decide)]
  refine (word_Oop_ok _ w2).mono ?_; rintro _ _ ⟨rfl,n7,rfl⟩
  refine ⟨_,rfl,?_⟩
  refine (act_push_ok (w := dr w2 n7) hc2 _).mono ?_; rintro _ w9 ⟨rfl,hc9,hF9⟩
  exact ⟨_,rfl,rfl,hc9,(hF0.trans' (h1 := wa.heap) hF2).trans' (h1 := w2.heap) hF9⟩
 ·simp only [h20,if_false]
  refine (act_alloc_ok hc0 hz _ _).mono ?_; rintro _ w2 ⟨rfl,hc2,hF2⟩
  refine ⟨_,rfl,?_⟩
  have hid := hc.inv.sp.idA σ.s 0 4 hz
  have hid' : (dAlloc O σ 0 4).1 <= mostI := hid
  generalize dAlloc O σ 0 4 = A at *
  have hF02 := hF0.trans' (h1 := wa.heap) hF2
  refine br_of (fun hneg => ?_) (fun hneg => ?_) <;> simp only [ZJ,ZK,ZL,ZM,ZN,ZO,ZP,ZQ,ZR] at hneg
  ·rw [if_pos hneg]; exact ⟨rfl,hc2,hF02⟩
  rw [if_neg (by omega)]
  refine br_of (fun h18 => ?_) (fun h18 => ?_) <;> simp only [ZJ,ZK,ZL,ZM,ZN,ZO,ZP,ZQ,ZR] at h18
  ·rw [if_pos h18]
   have hc3 : CT O I OK n0 w2.drew.heap m K D A.2 δ := hc2
   obtain ⟨f,hfe⟩ := Int.eq_ofNat_of_zero_le hf.1
   refine ⟨_,hc3.d6,_,hc3.d0,_,hc3.d2,?_⟩
   rw [onPtr_some,hfe]
   refine chk_of (by simp; omega) ⟨_,hc3.inv.ckept (k := f) (by omega),?_⟩
   rw [Int.toNat_natCast]
   refine newB_i ?_; intro b w5 b_eq hB5 hN5 w5_sz; try simp only [drew_heap',dr_heap] at b_eq hN5
   have hc5 := hc3.nw hN5
   have hd2 := hc5.d2
   rw [hfe] at hd2
   refine ⟨⟨hd2,hc5.d0,trivial⟩,?_⟩
   have hcS := hc3.sub hN5
   have hb := hB5.lt
   have hle5 := hN5.le
   have hbne : ∀ {h' : Hp},Fr (Sub OK w2.drew.heap.size w5.heap.size) w5.heap h' -> Bk h' b [.int .i64 (σ.litN δ),.int .i64 δ.x.home,.int .i64 (A.2.kept.getD f 0)] := fun hf => hB5.fr hf (not_sub (by simp only [drew_heap']; omega) hb)
   refine ⟨fun t w' => ∃ k : Nat,t = (k : Int) /\ k <= 3 /\ CT O I (Sub OK w2.drew.heap.size w5.heap.size) w5.heap.size w'.heap m K D (mkPut O A.2 A.1 [σ.litN δ,δ.x.home,A.2.kept.getD f 0] k) δ /\ Fr (Sub OK w2.drew.heap.size w5.heap.size) w5.heap w'.heap,fun t _ => 3 - t.toNat,⟨0,rfl,by omega,hcS,Fr.refl _ _⟩,?_⟩
   rintro t w6 ⟨k,rfl,hk,hc6,hF6⟩
   have hB6 := hbne hF6
   refine br_of (fun h3 => ?_) (fun h3 => ?_) <;> simp only [ZJ,ZK,ZL,ZM,ZN,ZO,ZP,ZQ,ZR] at h3
   ·refine chk_of (by simp; omega) ?_
    have hcell : w6.cell? ⟨b,0 + (k : Int).toNat * 1,none⟩ = some (.int .i64 ([σ.litN δ,δ.x.home,A.2.kept.getD f 0].getD k 0)) := by
     rw [hB6.cell,Int.toNat_natCast,show 0 + k * 1 = k by omega]
     match k,h3 with
     | 0,_ => rfl
     | 1,_ => rfl
     | 2,_ => rfl
    refine ⟨_,hcell,?_⟩
    refine (word_Int_ok _ w6).mono ?_; rintro _ _ ⟨rfl,n6,rfl⟩
    refine ⟨_,_,rfl,?_⟩
    have hc6' : CT O I (Sub OK w2.drew.heap.size w5.heap.size) w5.heap.size (dr w6 n6).heap m K D (mkPut O A.2 A.1 [σ.litN δ,δ.x.home,A.2.kept.getD f 0] k) δ := hc6
    refine ⟨_,hc6'.d0,?_⟩
    rw [onPtr_some]
    refine ⟨.iface K.st K.s,hc6'.inv.c5,?_⟩
    rw [onIface_some,wrap_id (x := 0 + (k : Int)) (by omega) (by omega),Int.zero_add]
    obtain ⟨o_w7,ho_w7,hS_w7,back_w7⟩ := hc6'.inv.store
    obtain ⟨fn_w7,rc_w7,hm1_w7,hm2_w7,hm3_w7⟩ := hc6'.inv.sp.put A.1 k _ hS_w7 hid'
    refine ⟨fn_w7,rc_w7,hm1_w7,?_⟩
    rw [hm2_w7,chk_true]
    refine hm3_w7.mono ?_; rintro _ w7 ⟨rfl,hS'_w7,hF_w7⟩
    obtain ⟨hM_w7,hFo_w7⟩ := back_w7 _ _ hS'_w7 hF_w7
    have hc_w7 := hc6'.to hM_w7 hFo_w7
    rw [wrap_id (by omega) (by omega)]
    exact ⟨_,rfl,⟨k + 1,rfl,by omega,hc_w7,hF6.trans' (h1 := w6.heap) hFo_w7⟩,by (first | omega | (dsimp only; omega))⟩
   ·obtain rfl : k = 3 := by omega
    have hc7 : CT O I (Sub OK w2.drew.heap.size w5.heap.size) w5.heap.size w6.drew.heap m K D (mkPut O A.2 A.1 [σ.litN δ,δ.x.home,A.2.kept.getD f 0] 3) δ := hc6
    refine ⟨_,hc7.d0,?_⟩
    rw [onPtr_some]
    refine ⟨.iface K.st K.s,hc7.inv.c5,_,hc7.d8,?_⟩
    rw [nilVC_iface,onIface_some]
    obtain ⟨o_w8,ho_w8,hS_w8,back_w8⟩ := hc7.inv.store
    obtain ⟨fn_w8,rc_w8,hm1_w8,hm2_w8,hm3_w8⟩ := hc7.inv.sp.put A.1 3 δ.x.self hS_w8 hid'
    refine ⟨fn_w8,rc_w8,hm1_w8,?_⟩
    rw [hm2_w8,chk_true]
    refine hm3_w8.mono ?_; rintro _ w8 ⟨rfl,hS'_w8,hF_w8⟩
    obtain ⟨hM_w8,hFo_w8⟩ := back_w8 _ _ hS'_w8 hF_w8
    have hc_w8 := hc7.to hM_w8 hFo_w8
    refine ⟨_,rfl,⟨hc_w8.inv.c5,hc_w8.d0,trivial⟩,?_⟩
    refine (word_Oop_ok _ w8).mono ?_; rintro _ _ ⟨rfl,n7,rfl⟩
    refine ⟨_,rfl,?_⟩
    refine (act_push_ok (w := dr w8 n7) hc_w8 _).mono ?_; rintro _ w9 ⟨rfl,hc9,hF9⟩
    have hF59 : Fr (Sub OK w2.drew.heap.size w5.heap.size) w5.heap w9.heap := (hF6.trans' (h1 := w6.heap) hFo_w8).trans' (h1 := w8.heap) hF9
    have hF39 : Fr OK w2.heap w9.heap := Fr.trans' (h1 := w5.heap) hN5.ok (hc3.inv.frsub hF59 hle5)
    exact ⟨_,rfl,rfl,hc3.unsub hc9 hF39 hle5 hF59.le,hF02.trans' hF39⟩
  ·rw [if_neg h18]
   refine (word_Oop_ok _ w2).mono ?_; rintro _ _ ⟨rfl,n7,rfl⟩
   refine ⟨_,rfl,?_⟩
   refine (act_push_ok (w := dr w2 n7) hc2 _).mono ?_; rintro _ w9 ⟨rfl,hc9,hF9⟩
   exact ⟨_,rfl,rfl,hc9,hF02.trans' (h1 := w2.heap) hF9⟩
end
end
section
section
variable {α : Type} (O : StoreOps α)
def mkGets (σ : TM α) (d : Int) : Nat -> List Int × TM α
 | 0 => ([],σ)
 | k + 1 => ((mkGets σ d k).1 ++ [(mGet O (mkGets σ d k).2 d k).1.1],(mGet O (mkGets σ d k).2 d k).2)
structure TBlk where
 a : Int
 b : Int
 c : Int
 d : Int
def TBlk.vs (l : TBlk) : List Value := [.int .u32 l.a,.int .u32 l.b,.int .u32 l.c,.int .u32 l.d]
def dBlock (σ : TM α) (w args : Int) : (TBlk × Bool) × TM α :=
 if (mObject O σ w).1.2 = false then ((⟨0,0,0,0⟩,false),(mObject O σ w).2)
 else
  let c := mCls O (mObject O σ w).2 (mObject O σ w).1.1
  if ¬ c.1 = 0 then ((⟨0,0,0,0⟩,false),c.2)
  else
   let g := mkGets O c.2 (mObject O σ w).1.1 4
   ((⟨g.1.getD 0 0,g.1.getD 1 0,g.1.getD 2 0,g.1.getD 3 0⟩,decide (0 <= (wNum (g.1.getD 0 0)).1) && (decide ((wNum (g.1.getD 0 0)).1 < σ.u.methods.length) && decide ((σ.meth (wNum (g.1.getD 0 0)).1).args = args))),g.2)
def dBegin (σ : TM α) (l : TBlk) (args : List Int) (sender : Int) : Int × TM α := mTake σ (wNum l.a).1 l.d args sender (wNum l.b).1 (wNum l.c).1
def dCall (σ : TM α) (δ : TD) (args : List Int) : Int × TM α :=
 let b := dBlock O σ (dUnder δ args.length) args.length
 if b.1.2 = false then (2,b.2) else if pFree b.2.pool = 0 then (5,b.2)
 else (0,{ (dBegin (dDrop b.2 δ (1 + args.length)) b.1.1 args δ.f).2 with top := (dBegin (dDrop b.2 δ (1 + args.length)) b.1.1 args δ.f).2.top.set δ.p.toNat (dBegin (dDrop b.2 δ (1 + args.length)) b.1.1 args δ.f).1 })
end
theorem mObject_u {α : Type} (O : StoreOps α) (σ : TM α) (w : Int) : (mObject O σ w).2 = { σ with s := (mObject O σ w).2.s } := by
 unfold mObject mCls; split
 ·rfl
 ·split <;> rfl
theorem mkGets_u {α : Type} (O : StoreOps α) (σ : TM α) (d : Int) : ∀ k,(mkGets O σ d k).2 = { σ with s := (mkGets O σ d k).2.s }
 | 0 => rfl
 | k + 1 => by
  have ih := mkGets_u O σ d k
  simp only [mkGets,mGet]
  rw [ih]
theorem dBlock_u {α : Type} (O : StoreOps α) (σ : TM α) (w a : Int) : (dBlock O σ w a).2 = { σ with s := (dBlock O σ w a).2.s } := by
 unfold dBlock
 have h1 := mObject_u O σ w
 split
 ·exact h1
 ·simp only
  split
  ·simp only [mCls]; rw [h1]
  ·rw [mkGets_u]; simp only [mCls]; rw [h1]
section
variable {α : Type} {O : StoreOps α} {I : Hp -> (Nat -> Prop) -> Value -> α -> Prop} {OK : Nat -> Prop} {n0 : Nat} {m : Nat} {K : MK} {D : DK} {σ : TM α} {δ : TD} {w : World}
theorem CT.reb {h0 h1 h' : Hp} {σ' : TM α} {c : Nat} (hc : CT O I OK n0 h0 m K D σ δ) (hN : Nw h0 h1) (hM : Inv O I (Sub OK h0.size h1.size) c h' m K σ') (hF : Fr OK h0 h') : CT O I (Sub OK h0.size h1.size) c h' m K D σ' δ := by
 have hd := hc.dn.fr hF
 have key : ∀ y,¬ OK y -> ¬ Sub OK h0.size h1.size y := fun y h1 h2 => h1 (hc.inv.subOK hN.le h2)
 exact ⟨hM,hd.bk,key _ hd.nd,hd.sl.mono fun y _ h => key y h,hd.st.mono fun y _ h => key y h,hd.s1,hd.s2⟩
theorem act_block_ok (hc : CT O I OK n0 w.heap m K D σ δ) (x : Int) (args : Int) : Calls P F.Z3q #[.pointer (some ⟨D.d,0,none⟩),.int .u32 x,.int .i64 args] w (DTo O I OK n0 m K D δ (.tuple #[.agg #[.int .u32 (dBlock O σ x args).1.1.a,.int .u32 (dBlock O σ x args).1.1.b,.int .u32 (dBlock O σ x args).1.1.c,.int .u32 (dBlock O σ x args).1.1.d],.bool (dBlock O σ x args).1.2]) (dBlock O σ x args).2 w) := by
 refine oZ3q ?_
 unfold vZ3q
 simp only [join_eq]
 refine newB_i ?_; intro b w1 b_eq hB hN w1_sz; try simp only [drew_heap',dr_heap] at b_eq hN
 have hcS := hc.sub hN
 have hb := hB.lt; have hle := hN.le
 obtain ⟨OS,hOS⟩ : ∃ OS,OS = Sub OK w.heap.size w1.heap.size := ⟨_,rfl⟩
 have hfin : ∀ {w' : World} {σ' : TM α},CT O I OS w1.heap.size w'.heap m K D σ' δ -> Fr OS w1.heap w'.heap -> ∀ {w'' : World},Fr (· = b) w'.heap w''.heap -> CT O I OK n0 w''.heap m K D σ' δ /\ Fr OK w.heap w''.heap := by
  intro w' σ' hc' hf' w'' hb'
  subst hOS
  have hnb : ¬ Sub OK w.heap.size w1.heap.size b := not_sub (by omega) hb
  have hI := hc'.inv.loc hb' hnb
  have hF : Fr OK w.heap w''.heap := (hN.ok.trans' (hc.inv.frsub hf' hle)).trans hb' (fun _ _ h => h) fun y _ h => by rw [h]; exact hc.inv.ups b (by omega)
  exact ⟨⟨hc.inv.unsub hI hle (Nat.le_trans hf'.le hb'.le),hc.dn.fr hF⟩,hF⟩
 have hbb : ∀ {h h' : Hp} {cs : List Value},Bk h b cs -> Fr OS h h' -> Bk h' b cs := fun hk hf => hk.fr hf (by rw [hOS]; exact not_sub (by omega) hb)
 rw [<- hOS] at hcS
 refine ⟨_,hcS.d0,?_⟩
 refine (act_object_ok hcS.inv x).mono ?_; rintro _ w2 ⟨rfl,hM2,hF2⟩
 have hc2 := hcS.to hM2 hF2
 have hB2 := hbb hB hF2
 refine ⟨_,_,rfl,?_⟩
 have hle2 := mObject_le (O := O) σ x
 unfold dBlock
 cases h : (mObject O σ x).1.2 with
 | false =>
  simp only [Bool.not_false,br_true,if_true]
  refine ⟨0,0,0,0,Bk.holds hB2,?_⟩
  refine stores_i hB2 (by simp [sets_length]) ?_; intro w9 hB9 hF9 w9_sz; try simp only [drew_heap',dr_heap] at w9_sz hF9
  simp only [sets,ZH,ZI] at hB9
  obtain ⟨a1,a2⟩ := hfin hc2 hF2 hF9
  exact ⟨0,0,0,0,hB9.holds,rfl,a1,a2⟩
 | true =>
  simp only [Bool.not_true,br_false,Bool.true_eq_false,if_false]
  refine ⟨_,hc2.d0,?_⟩
  rw [onPtr_some]
  refine ⟨.iface K.st K.s,hc2.inv.c5,?_⟩
  rw [onIface_some]
  obtain ⟨o_w3,ho_w3,hS_w3,back_w3⟩ := hc2.inv.store
  obtain ⟨fn_w3,rc_w3,hm1_w3,hm2_w3,hm3_w3⟩ := hc2.inv.sp.cls _ hS_w3 hle2
  refine ⟨fn_w3,rc_w3,hm1_w3,?_⟩
  rw [hm2_w3,chk_true]
  refine hm3_w3.mono ?_; rintro _ w3 ⟨rfl,hS'_w3,hF_w3⟩
  obtain ⟨hM_w3,hFo_w3⟩ := back_w3 _ _ hS'_w3 hF_w3
  have hc_w3 := hc2.to hM_w3 hFo_w3
  have hB3 := hbb hB2 hFo_w3
  have hF3 := hF2.trans' hFo_w3
  refine ⟨_,rfl,?_⟩
  have hcu : (mCls O (mObject O σ x).2 (mObject O σ x).1.1).2.u = σ.u := by simp only [mCls]; rw [mObject_u]
  obtain ⟨C,hC⟩ : ∃ C,C = mCls O (mObject O σ x).2 (mObject O σ x).1.1 := ⟨_,rfl⟩
  have hc3 : CT O I OS w1.heap.size w3.heap m K D C.2 δ := by rw [hC]; exact hc_w3
  rw [show (O.cls (mObject O σ x).2.s (mObject O σ x).1.1).1 = C.1 by rw [hC]; rfl]
  rw [<- hC] at hcu ⊢
  generalize (mObject O σ x).1.1 = id at *
  refine br_of (fun h4 => ?_) (fun h4 => ?_) <;> simp only [ZL,ZM,ZJ,ZK] at h4
  ·rw [if_pos h4]
   refine ⟨0,0,0,0,Bk.holds hB3,?_⟩
   refine stores_i hB3 (by simp [sets_length]) ?_; intro w9 hB9 hF9 w9_sz; try simp only [drew_heap',dr_heap] at w9_sz hF9
   simp only [sets,ZH,ZI] at hB9
   obtain ⟨a1,a2⟩ := hfin hc3 hF3 hF9
   exact ⟨0,0,0,0,hB9.holds,rfl,a1,a2⟩
  rw [if_neg (by omega)]
  have hF03 : Fr OK w.heap w3.heap := hN.ok.trans' (by rw [hOS] at hF3; exact hc.inv.frsub hF3 hle)
  have hbOK : OK b := hc.inv.ups b (by omega)
  refine ⟨fun t w' => ∃ k : Nat,t = (k : Int) /\ k <= 4 /\ CT O I OS w1.heap.size w'.heap m K D (mkGets O C.2 id k).2 δ /\ Fr OK w.heap w'.heap /\ w1.heap.size <= w'.heap.size /\ Bk w'.heap b ((mkGets O C.2 id k).1.map (Value.int .u32) ++ List.replicate (4 - k) (.int .u32 0)),fun t _ => 4 - t.toNat,⟨0,rfl,by omega,hc3,hF03,hF3.le,hB3⟩,?_⟩
  rintro t w4 ⟨k,rfl,hk,hc4,hF4,hle4,hB4⟩
  refine br_of (fun h5 => ?_) (fun h5 => ?_) <;> simp only [ZJ,ZK,ZL,ZM,ZN,ZO,ZP,ZQ,ZR] at h5
  ·refine ⟨_,hc4.d0,?_⟩
   rw [onPtr_some]
   refine ⟨.iface K.st K.s,hc4.inv.c5,?_⟩
   rw [onIface_some]
   obtain ⟨o_w5,ho_w5,hS_w5,back_w5⟩ := hc4.inv.store
   obtain ⟨fn_w5,rc_w5,hm1_w5,hm2_w5,hm3_w5⟩ := hc4.inv.sp.get id k hS_w5 hle2
   refine ⟨fn_w5,rc_w5,hm1_w5,?_⟩
   rw [hm2_w5,chk_true]
   refine hm3_w5.mono ?_; rintro _ w5 ⟨rfl,hS'_w5,hF_w5⟩
   obtain ⟨hM_w5,hFo_w5⟩ := back_w5 _ _ hS'_w5 hF_w5
   have hc_w5 := hc4.to hM_w5 hFo_w5
   have hB5 := hbb hB4 hFo_w5
   refine ⟨_,_,rfl,chk_of (by simp; omega) ?_⟩
   have hlen : ∀ k,(mkGets O C.2 id k).1.length = k := by
    intro k; induction k with
    | zero => rfl
    | succ k ih => simp [mkGets,ih]
   refine stores_i hB5 (by simp [hlen]; omega) ?_; intro w6 hB6 hF6 hz6
   have hF06 : Fr OK w.heap w6.heap := (hF4.trans' (by rw [hOS] at hFo_w5; exact hc.inv.frsub hFo_w5 hle)).trans hF6 (fun _ _ h => h) fun y _ h => by rw [h]; exact hbOK
   have hI6 := hc_w5.inv.loc hF6 (by rw [hOS]; exact not_sub (by omega) hb)
   have hc6 : CT O I OS w1.heap.size w6.heap m K D (mkGets O C.2 id (k + 1)).2 δ := by
    subst hOS
    exact hc.reb hN hI6 hF06
   rw [wrap_id (by omega) (by omega)]
   refine ⟨⟨k + 1,rfl,by omega,hc6,hF06,Nat.le_trans hle4 (Nat.le_trans hFo_w5.le hF6.le),?_⟩,by (first | omega | (dsimp only; omega))⟩
   rw [Int.toNat_natCast,Nat.mul_one,sets_eq _ _ _ (by simp [hlen]; omega)] at hB6
   have e1 : ((mkGets O C.2 id k).1.map (Value.int .u32)).length = k := by simp [hlen]
   rw [Nat.zero_add,List.take_left' e1,<- List.drop_drop,List.drop_left' e1] at hB6
   have e2 : (mkGets O C.2 id (k + 1)).1.map (Value.int .u32) = (mkGets O C.2 id k).1.map (Value.int .u32) ++ [.int .u32 (mGet O (mkGets O C.2 id k).2 id k).1.1] := by simp [mkGets]
   have e3 : List.drop [Value.int .u32 (mGet O (mkGets O C.2 id k).2 id k).1.1].length (List.replicate (4 - k) (Value.int .u32 0)) = List.replicate (4 - (k + 1)) (.int .u32 0) := by simp [Nat.sub_sub]
   rw [e2,<- e3]
   exact hB6
  ·obtain rfl : k = 4 := by omega
   obtain ⟨G,hG⟩ : ∃ G,G = mkGets O C.2 id 4 := ⟨_,rfl⟩
   have hlen : G.1.length = 4 := by rw [hG]; rfl
   have hGu : G.2.u = σ.u := by rw [hG,mkGets_u]; exact hcu
   rw [<- hG] at hc4 hB4 ⊢
   obtain ⟨l,G2⟩ := G
   obtain ⟨g0,g1,g2,g3,rfl⟩ : ∃ a b c d,l = [a,b,c,d] := by
    match l,hlen with
    | [a,b,c,d],_ => exact ⟨a,b,c,d,rfl⟩
   simp only [List.map_cons,List.map_nil,Nat.sub_self,List.replicate_zero,List.append_nil] at hB4
   refine ⟨g0,by rw [hB4.cell]; rfl,?_⟩
   refine (word_Num_ok g0 w4).mono ?_; rintro _ _ ⟨rfl,n5,rfl⟩
   refine ⟨_,_,rfl,?_⟩
   have hc5 : CT O I OS w1.heap.size (dr w4 n5).drew.heap m K D G2 δ := hc4
   have hB5 : Bk (dr w4 n5).drew.heap b [.int .u32 g0,.int .u32 g1,.int .u32 g2,.int .u32 g3] := hB4
   have hF5 : Fr OK w.heap (dr w4 n5).drew.heap := hF4
   rw [wv_eq]
   generalize (dr w4 n5).drew = w5 at *
   refine ⟨g0,g1,g2,g3,hB5.holds,?_⟩
   simp only [show [g0,g1,g2,g3].getD 0 0 = g0 by rfl,show [g0,g1,g2,g3].getD 1 0 = g1 by rfl,show [g0,g1,g2,g3].getD 2 0 = g2 by rfl,show [g0,g1,g2,g3].getD 3 0 = g3 by rfl]
   have hend : ∀ {w'' : World},Fr (· = b) w5.heap w''.heap -> CT O I OK n0 w''.heap m K D G2 δ /\ CT O I OS w1.heap.size w''.heap m K D G2 δ /\ Fr OK w.heap w''.heap := by
    intro w'' hb'
    have hI := hc5.inv.loc hb' (by rw [hOS]; exact not_sub (by omega) hb)
    have hF : Fr OK w.heap w''.heap := hF5.trans hb' (fun _ _ h => h) fun y _ h => by rw [h]; exact hbOK
    have hl5 := hc5.inv.le
    refine ⟨⟨?_,hc.dn.fr hF⟩,?_,hF⟩
    ·subst hOS; exact hc.inv.unsub hI hle hI.le
    ·subst hOS; exact hc.reb hN hI hF
   refine br_of (fun h6 => ?_) (fun h6 => ?_) <;> simp only [ZJ,ZK,ZL,ZM,ZN,ZO,ZP,ZQ,ZR] at h6
   ·refine ⟨_,hc5.d0,?_⟩
    rw [onPtr_some]
    refine ⟨_,_,_,hc5.inv.c2,?_⟩
    have hmn : K.c.methods.n = σ.u.methods.length := by
     obtain ⟨o,_,hu⟩ := hc5.inv.unit
     obtain ⟨lm,hm1,hmA⟩ := hu.methods
     rw [<- hm1.len,hmA.len,hGu]
    rw [hmn]
    refine br_of (fun h7 => ?_) (fun h7 => ?_) <;> simp only [ZJ,ZK,ZL,ZM,ZN,ZO,ZP,ZQ,ZR] at h7
    ·have hmr : 0 <= (wNum g0).1 /\ (wNum g0).1 < G2.u.methods.length := ⟨h6,by rw [hGu]; exact h7⟩
     refine ⟨_,hc5.d0,?_⟩
     rw [onPtr_some]
     refine ⟨_,_,_,hc5.inv.c2,?_⟩
     refine chk_of (by simp; omega) ?_
     have hcell : ∃ (g o : Nat),K.c.methods.p = some ⟨g,o,none⟩ /\ ∀ w' : World,CT O I OS w1.heap.size w'.heap m K D G2 δ -> w'.cell? ⟨g,o + (wNum g0).1.toNat * 4,none⟩ = some (.int .i64 (σ.meth (wNum g0).1).args) := by
      have hex : ∃ (g o : Nat),K.c.methods.p = some ⟨g,o,none⟩ := by
       obtain ⟨o,_,hu⟩ := hc5.inv.unit
       obtain ⟨lm,hm1,hmA⟩ := hu.methods
       obtain ⟨g,pre,post,e,_⟩ := hm1.addr (i := 0) (by omega)
       exact ⟨g,_,e⟩
      obtain ⟨g,o,e⟩ := hex
      refine ⟨g,o,e,fun w' hcw => ?_⟩
      have := (hcw.inv.meth hmr (Q := fun g o => w'.cell? ⟨g,o + (wNum g0).1.toNat * 4,none⟩ = some (.int .i64 (σ.meth (wNum g0).1).args)) (fun o r g o' hr hh => by rw [show σ.meth (wNum g0).1 = G2.meth (wNum g0).1 by unfold TM.meth; rw [show G2.u = σ.u from hGu],<- hr.args]; exact hh.1)).2
      rw [e] at this
      exact this
     obtain ⟨g,o,e,hcell⟩ := hcell
     rw [show onPtr K.c.methods.p = onPtr (some ⟨g,o,none⟩) by rw [e],onPtr_some]
     refine ⟨_,hcell w5 hc5,?_⟩
     refine stores_i hB5 (by simp [sets_length]) ?_; intro w9 hB9 hF9 w9_sz; try simp only [drew_heap',dr_heap] at w9_sz hF9
     simp only [sets,ZH,ZI] at hB9
     obtain ⟨a1,a2,a3⟩ := hend hF9
     refine ⟨⟨hcell w9 a2,a2.inv.c2,a2.d0,by rw [<- hmn]; exact a2.inv.c2,a2.d0,trivial⟩,g0,g1,g2,g3,hB9.holds,?_,a1,a3⟩
     simp only [h6,h7,decide_true,Bool.true_and]
    ·refine stores_i hB5 (by simp [sets_length]) ?_; intro w9 hB9 hF9 w9_sz; try simp only [drew_heap',dr_heap] at w9_sz hF9
     simp only [sets,ZH,ZI] at hB9
     obtain ⟨a1,a2,a3⟩ := hend hF9
     refine ⟨⟨by rw [<- hmn]; exact a2.inv.c2,a2.d0,trivial⟩,g0,g1,g2,g3,hB9.holds,?_,a1,a3⟩
     rw [show decide ((wNum g0).1 < (σ.u.methods.length : Int)) = false by simp; omega,Bool.false_and,Bool.and_false]
   ·refine stores_i hB5 (by simp [sets_length]) ?_; intro w9 hB9 hF9 w9_sz; try simp only [drew_heap',dr_heap] at w9_sz hF9
    simp only [sets,ZH,ZI] at hB9
    obtain ⟨a1,a2,a3⟩ := hend hF9
    refine ⟨trivial,g0,g1,g2,g3,hB9.holds,?_,a1,a3⟩
    rw [show decide (0 <= (wNum g0).1) = false by simp; omega,Bool.false_and]
theorem MGood.sh {x : TMethod} {n c k : Nat} (h : MGood x n c k) : 0 <= x.args /\ 0 <= x.temps /\ x.args + x.temps <= 8 := by
 have := h.short
 simp only [cShort,Bool.and_eq_true,ZJ] at this
 omega
theorem UGood.meth (hg : UGood σ.u) {i : Int} (hi : 0 <= i /\ i < σ.u.methods.length) : MGood (σ.meth i) σ.u.names.length σ.u.classes.length σ.u.methods.length :=
 hg.methods _ (by simp only [TM.meth]; exact List.mem_of_getElem? (getD_some (by omega)))
theorem act_begin_ok (hc : CT O I OK n0 w.heap m K D σ δ) (hg : UGood σ.u) {oa : Nat -> Prop} {p : Option Addr} {n c : Nat} {args : List Int} (hs : Sl w.heap oa eU32 p n c args) (hn : n <= 1000) (l : TBlk) (hi : 0 <= (wNum l.a).1 /\ (wNum l.a).1 < σ.u.methods.length) (hL : σ.pool.used.length = 24) (sender : Int) :
  Calls P F.Z3s #[.pointer (some ⟨D.d,0,none⟩),.agg #[.int .u32 l.a,.int .u32 l.b,.int .u32 l.c,.int .u32 l.d],.slice p n c,.int .i64 sender] w (DTo O I OK n0 m K D δ (.int .i64 (dBegin σ l args sender).1) (dBegin σ l args sender).2 w) := by
 refine oZ3s ?_
 refine newB_i ?_; intro b w1 b_eq hB hN w1_sz; try simp only [drew_heap',dr_heap] at b_eq hN
 refine ⟨l.a,by rw [hB.cell]; rfl,?_⟩
 refine (word_Num_ok l.a w1).mono ?_; rintro _ _ ⟨rfl,n1,rfl⟩
 refine ⟨_,_,rfl,l.b,by rw [dr_cell,hB.cell]; rfl,?_⟩
 refine (word_Num_ok l.b (dr w1 n1)).mono ?_; rintro _ _ ⟨rfl,n2,rfl⟩
 refine ⟨_,_,rfl,l.c,by rw [dr_cell,dr_cell,hB.cell]; rfl,?_⟩
 refine (word_Num_ok l.c (dr (dr w1 n1) n2)).mono ?_; rintro _ _ ⟨rfl,n3,rfl⟩
 refine ⟨_,_,rfl,?_⟩
 have hc1 : CT O I OK n0 (dr (dr (dr w1 n1) n2) n3).drew.heap m K D σ δ := hc.nw hN
 have hN1 : Nw w.heap (dr (dr (dr w1 n1) n2) n3).drew.heap := hN
 have hB1 : Bk (dr (dr (dr w1 n1) n2) n3).drew.heap b [.int .u32 l.a,.int .u32 l.b,.int .u32 l.c,.int .u32 l.d] := hB
 rw [wv_eq]
 generalize (dr (dr (dr w1 n1) n2) n3).drew = w2 at *
 refine ⟨_,hc1.d0,l.d,by rw [hB1.cell]; rfl,?_⟩
 have hsh := (hg.meth hi).sh
 refine (act_take_ok hc1.inv (hs.nw hN1) hn hi ⟨hsh.2.1,by omega⟩ l.d sender _ _ hL).mono ?_; rintro _ w3 ⟨rfl,hM3,hF3⟩
 exact ⟨_,rfl,trivial,rfl,hc1.to hM3 hF3,hN1.ok.trans' hF3⟩
theorem pPop_used (π : TPool) (f : Int) : (pPop π f).used = π.used := by unfold pPop TPool.put; split <;> rfl
theorem pPops_used (π : TPool) (f : Int) : ∀ n,(pPops π f n).used = π.used
 | 0 => rfl
 | n + 1 => by rw [pPops,pPop_used,pPops_used π f n]
theorem act_call_ok (hc : CT O I OK n0 w.heap m K D σ δ) (hg : UGood σ.u) {oa : Nat -> Prop} {p : Option Addr} {n c : Nat} {args : List Int} (hs : Sl w.heap oa eU32 p n c args) (hoa : ∀ y,y < w.heap.size -> oa y -> ¬ OK y) (hn : n < δ.x.stack.length) (hL : σ.pool.used.length = 24) (hp : 0 <= δ.p /\ δ.p < 6) :
  Calls P F.Z2s #[.pointer (some ⟨D.d,0,none⟩),.slice p n c] w (DTo O I OK n0 m K D δ (.int .i64 (dCall O σ δ args).1) (dCall O σ δ args).2 w) := by
 refine oZ2s ?_
 have hl := hs.len; have hs2 := hc.dn.s2
 refine (act_under_ok hc (n := n) hn).mono ?_; rintro _ _ ⟨rfl,n0',rfl⟩
 refine ⟨_,rfl,?_⟩
 refine (act_block_ok (w := dr w n0') hc _ _).mono ?_; rintro _ w1 ⟨rfl,hc1,hF1⟩
 replace hF1 : Fr OK w.heap w1.heap := hF1
 refine ⟨_,_,_,_,_,rfl,?_⟩
 unfold dCall
 rw [hl]
 have hbu := dBlock_u O σ (dUnder δ n) n
 obtain ⟨B,hB⟩ : ∃ B,B = dBlock O σ (dUnder δ n) n := ⟨_,rfl⟩
 have hok : B.1.2 = true -> 0 <= (wNum B.1.1.a).1 /\ (wNum B.1.1.a).1 < σ.u.methods.length := by
  rw [hB]; unfold dBlock
  split
  ·simp
  ·simp only
   split
   ·simp
   ·simp only [Bool.and_eq_true,ZJ]; omega
 rw [<- hB] at hc1 hbu ⊢
 simp only
 have hBu : B.2.u = σ.u := by rw [hbu]
 have hBp : B.2.pool = σ.pool := by rw [hbu]
 refine newB_i ?_; intro b w2 b_eq hb2 hN2 w2_sz; try simp only [drew_heap',dr_heap] at b_eq hN2
 refine stores_i hb2 (by simp [sets_length]) ?_; intro w3 hb3 hF3 w3_sz; try simp only [drew_heap',dr_heap] at w3_sz hF3
 simp only [sets,ZH,ZI] at hb3
 have hN13 : Nw w1.heap w3.heap := hN2.st hF3 (by omega)
 have hF03 := hF1.trans' hN13.ok
 have hc3 := hc1.nw hN13
 cases hbk : B.1.2 with
 | false =>
  simp only [Bool.not_false,br_true,if_true]
  exact ⟨rfl,hc3,hF03⟩
 | true =>
  simp only [Bool.not_true,br_false,Bool.true_eq_false,if_false]
  refine ⟨_,hc3.d0,?_⟩
  rw [onPtr_some]
  refine ⟨_,hc3.inv.c6,?_⟩
  obtain ⟨o,ho,hP,_⟩ := hc3.inv.pool
  refine (frame_Free_ok hP).mono ?_; rintro _ _ ⟨rfl,n4,rfl⟩
  refine ⟨_,rfl,?_⟩
  refine br_of (fun h5 => ?_) (fun h5 => ?_) <;> simp only [ZJ,ZK,ZL,ZM,ZN,ZO,ZP,ZQ,ZR] at h5
  ·rw [if_pos (by omega)]; exact ⟨rfl,hc3,hF03⟩
  rw [if_neg (by omega)]
  have hb := hb3.lt; have hle := hN13.le
  have hcS : CT O I (Sub OK w1.heap.size w3.heap.size) w3.heap.size (dr w3 n4).heap m K D B.2 δ := hc1.sub hN13
  rw [wrap_id (by omega) (by omega),show (1 : Int) + (n : Int) = ((1 + n : Nat) : Int) by omega]
  refine (act_drop_ok hcS (1 + n) (by omega)).mono ?_; rintro _ w5 ⟨rfl,hc5,hF5⟩
  replace hF5 : Fr (Sub OK w1.heap.size w3.heap.size) w3.heap w5.heap := hF5
  have hb5 := hb3.fr hF5 (not_sub (by omega) hb)
  have hle5 := hF5.le
  have hs5 : Sl w5.heap (fun _ => True) eU32 p n c args := ((hs.fr (ok' := fun y => ¬ OK y) hF1 hoa hoa).nw hN13).fr (S := Sub OK w1.heap.size w3.heap.size) hF5 (fun y _ h e => h (hc1.inv.subOK hle e)) (fun _ _ _ => trivial)
  refine ⟨rfl,?_⟩
  have hc5' : CT O I (Sub OK w1.heap.size w3.heap.size) w3.heap.size w5.drew.heap m K D (dDrop B.2 δ (1 + n)) δ := hc5
  refine ⟨_,hc5'.d0,_,hc5'.d1,B.1.1.a,B.1.1.b,B.1.1.c,B.1.1.d,hb5.holds (w := w5.drew),_,hc5'.d2,?_⟩
  rw [onPtr_some]
  refine (act_begin_ok (w := w5.drew) hc5' (by show UGood B.2.u; rw [hBu]; exact hg) hs5 (by omega) B.1.1 (by show _ /\ _ < (B.2.u.methods.length : Int); rw [hBu]; exact hok hbk) (by show (pPops B.2.pool δ.f (1 + n)).used.length = 24; rw [pPops_used,hBp]; exact hL) δ.f).mono ?_
  rintro _ w6 ⟨rfl,hc6,hF6⟩
  replace hF6 : Fr (Sub OK w1.heap.size w3.heap.size) w5.heap w6.heap := hF6
  obtain ⟨k,hk⟩ := Int.eq_ofNat_of_zero_le hp.1
  refine ⟨_,rfl,⟨hc6.d1,hc6.d0,trivial⟩,?_⟩
  rw [hk]
  refine chk_of (by simp; omega) ?_
  refine hc6.inv.stop (k := k) (by omega) _ ?_; intro w7 hM7 hF7 hz7 hm7
  have hF37 := (hF5.trans' hF6).trans' hF7
  have hF17 : Fr OK w1.heap w7.heap := hN13.ok.trans' (hc1.inv.frsub hF37 hle)
  have hM7' := hc1.inv.unsub hM7 hle hF37.le
  exact ⟨trivial,rfl,⟨hM7',hc1.dn.fr hF17⟩,hF1.trans' hF17⟩
end
end
section
section
variable {α : Type} (O : StoreOps α)
def dFields (σ : TM α) (δ : TD) : Int × TM α :=
 if δ.arg = 7 then
  let o := mObject O σ (dUnder δ 0)
  if o.1.2 = false then (2,o.2) else (0,dAnswer (mFlds O o.2 o.1.1).2 δ 1 (wInt (mFlds O o.2 o.1.1).1).1)
 else
  let n := (cTakes δ.arg).toNat
  let o := dOpen O σ (dUnder δ (n - 1))
  let x := wNum (dUnder δ (n - 2))
  if o.1.2 = false \/ x.2 = false then (2,o.2)
  else if δ.arg = 8 then
   let g := mGet O o.2 o.1.1 x.1
   if g.1.2 = false then (3,g.2) else (0,dAnswer g.2 δ n g.1.1)
  else
   let g := mPut O o.2 o.1.1 x.1 (dUnder δ 0)
   if g.1 = false then (3,g.2) else (0,dAnswer g.2 δ n (dUnder δ 0))
def clk (c : Int) : Int := IntKind.wrap .i64 ((BitVec.toNat (BitVec.ofInt (IntKind.bits .i64) c &&& BitVec.ofInt (IntKind.bits .i64) 1073741823) : Int))
def dPlain (σ : TM α) (δ : TD) : TM α :=
 if δ.arg = 14 then dAnswer { σ with queue := qTurn σ.queue } δ 0 2
 else if δ.arg = 17 then dAnswer (mTell { σ with halted := true } 4 0 ⟨0,0⟩) δ 0 2
 else if δ.arg = 21 then dAnswer σ δ 0 (wInt (clk σ.clock)).1
 else if δ.arg = 23 then (match σ.input with | [] => dAnswer σ δ 0 2 | x :: r => dAnswer { σ with input := r } δ 0 x)
 else dAnswer σ δ 0 2
def dNumbered (σ : TM α) (δ : TD) : Int × TM α :=
 let n := (wNum (dUnder δ 0)).1
 let most := if δ.arg = 15 \/ δ.arg = 16 then 3 else if δ.arg = 22 then n else 62
 if (wNum (dUnder δ 0)).2 = false then (2,σ)
 else if n < 0 \/ most < n then (3,σ)
 else if δ.arg = 18 then
  let a := dAlloc O σ 1 n
  if a.1 < 0 then (-1,a.2) else (0,dAnswer a.2 δ 1 (wOop a.1))
 else
  let s := dAnswer σ δ 1 2
  if δ.arg = 15 then (0,{ s with queue := qWait s.queue n }) else if δ.arg = 16 then (0,{ s with queue := qPost s.queue n }) else (0,{ s with queue := qSleep s.queue (IntKind.wrap .i64 (s.clock + n)) })
end
section
variable {α : Type} {O : StoreOps α} {I : Hp -> (Nat -> Prop) -> Value -> α -> Prop} {OK : Nat -> Prop} {n0 : Nat} {m : Nat} {K : MK} {D : DK} {σ : TM α} {δ : TD} {w : World}
theorem act_fields_ok (hc : CT O I OK n0 w.heap m K D σ δ) (ha : δ.arg = 7 \/ δ.arg = 8 \/ δ.arg = 9) (hn : cTakes δ.arg <= δ.x.stack.length) : Calls P F.Z2q #[.pointer (some ⟨D.d,0,none⟩)] w (DTo O I OK n0 m K D δ (.int .i64 (dFields O σ δ).1) (dFields O σ δ).2 w) := by
 refine oZ2q ?_
 unfold vZ2q
 simp only [join_eq]
 refine ⟨_,hc.d11,?_⟩
 refine (code_Takes_ok δ.arg w).mono ?_; rintro _ _ ⟨rfl,n,rfl⟩
 replace hc : CT O I OK n0 (dr w n).heap m K D σ δ := hc
 refine ⟨_,rfl,_,hc.d11,?_⟩
 have hF0 : Fr OK w.heap (dr w n).heap := Fr.refl _ _
 unfold dFields
 by_cases h7 : δ.arg = 7
 ·rw [if_pos h7,decide_eq_true h7,br_true]
  dsimp only
  rw [h7,show cTakes 7 = 1 by decide] at hn
  have hc0 : CT O I OK n0 (dr w n).drew.heap m K D σ δ := hc
  have hF0' : Fr OK w.heap (dr w n).drew.heap := Fr.refl _ _
  rw [wv_eq]
  generalize (dr w n).drew = wa at *
  refine ⟨_,hc0.d0,?_⟩
  refine (act_under_ok hc0 (n := 0) (by omega)).mono ?_; rintro _ _ ⟨rfl,m1,rfl⟩
  replace hc0 : CT O I OK n0 (dr wa m1).heap m K D σ δ := hc0
  refine ⟨_,rfl,⟨hc0.d0,trivial⟩,?_⟩
  refine (act_object_ok hc0.inv _).mono ?_; rintro _ w2 ⟨rfl,hM2,hF2⟩
  have hc2 := hc0.to hM2 hF2
  refine ⟨_,_,rfl,trivial,?_⟩
  have hle := mObject_le (O := O) σ (dUnder δ 0)
  have hF02 : Fr OK w.heap w2.heap := hF0'.trans' (h1 := wa.heap) hF2
  cases h : (mObject O σ (dUnder δ 0)).1.2 with
  | false => simp only [Bool.not_false,br_true,if_true]; exact ⟨rfl,hc2,hF02⟩
  | true =>
   simp only [Bool.not_true,br_false,Bool.true_eq_false,if_false]
   refine ⟨_,hc2.d0,?_⟩
   rw [onPtr_some]
   refine ⟨.iface K.st K.s,hc2.inv.c5,?_⟩
   rw [onIface_some]
   obtain ⟨o_w3,ho_w3,hS_w3,back_w3⟩ := hc2.inv.store
   obtain ⟨fn_w3,rc_w3,hm1_w3,hm2_w3,hm3_w3⟩ := hc2.inv.sp.flds _ hS_w3 hle
   refine ⟨fn_w3,rc_w3,hm1_w3,?_⟩
   rw [hm2_w3,chk_true]
   refine hm3_w3.mono ?_; rintro _ w3 ⟨rfl,hS'_w3,hF_w3⟩
   obtain ⟨hM_w3,hFo_w3⟩ := back_w3 _ _ hS'_w3 hF_w3
   have hc_w3 := hc2.to hM_w3 hFo_w3
   refine ⟨_,rfl,?_⟩
   refine (act_num_ok _ w3).mono ?_; rintro _ _ ⟨rfl,m2,rfl⟩
   refine ⟨_,rfl,?_⟩
   refine (act_answer_ok (w := dr w3 m2) hc_w3 1 (by omega) _).mono ?_; rintro _ w6 ⟨rfl,hc6,hF6⟩
   exact ⟨_,rfl,rfl,hc6,(hF02.trans' hFo_w3).trans' (h1 := w3.heap) hF6⟩
 ·rw [if_neg h7,decide_eq_false h7,br_false]
  rcases ha with ha | ha | ha
  ·exact absurd ha h7
  ·have hT : cTakes δ.arg = 2 := by rw [ha]; decide
   rw [hT] at hn ⊢
   rw [show IntKind.wrap .i64 ((2 : Int) - 1) = ((1 : Nat) : Int) by decide]
   simp only [show Int.toNat 2 = 2 by rfl,show 2 - 1 = 1 by rfl,show 2 - 2 = 0 by rfl]
   generalize dr w n = wb at *
   refine (act_under_ok hc (n := 1) (by omega)).mono ?_; rintro _ _ ⟨rfl,m1,rfl⟩
   refine ⟨_,rfl,?_⟩
   refine (act_open_ok (w := dr wb m1) hc _).mono ?_; rintro _ w2 ⟨rfl,hc2,hF2⟩
   replace hF2 : Fr OK w.heap w2.heap := hF0.trans' (h1 := wb.heap) hF2
   refine ⟨_,_,rfl,?_⟩
   have hle := dOpen_le (O := O) σ (dUnder δ 1)
   rw [show IntKind.wrap .i64 ((2 : Int) - 2) = ((0 : Nat) : Int) by decide]
   refine (act_under_ok hc2 (n := 0) (by omega)).mono ?_; rintro _ _ ⟨rfl,m2,rfl⟩
   refine ⟨_,rfl,?_⟩
   refine (word_Num_ok _ (dr w2 m2)).mono ?_; rintro _ _ ⟨rfl,m3,rfl⟩
   refine ⟨_,_,rfl,?_⟩
   have hc3 : CT O I OK n0 (dr (dr w2 m2) m3).heap m K D _ δ := hc2
   have hF3 : Fr OK w.heap (dr (dr w2 m2) m3).heap := hF2
   generalize dr (dr w2 m2) m3 = w3 at *
   generalize dOpen O σ (dUnder δ 1) = o at *
   generalize wNum (dUnder δ 0) = x at *
   refine br_of (fun h1 => ?_) (fun h1 => ?_) <;> simp only [ZL,ZM] at h1
   ·simp only [h1,true_or,if_true]; exact ⟨rfl,hc3,hF3⟩
   refine br_of (fun h2 => ?_) (fun h2 => ?_) <;> simp only [ZL,ZM] at h2
   ·simp only [h2,or_true,if_true]; exact ⟨rfl,hc3,hF3⟩
   simp only [h1,h2,Bool.true_eq_false,or_self,if_false]
   refine (act_under_ok hc3 (n := 0) (by omega)).mono ?_; rintro _ _ ⟨rfl,m4,rfl⟩
   refine ⟨_,rfl,?_⟩
   have hc4 : CT O I OK n0 (dr w3 m4).heap m K D _ δ := hc3
   have hF4 : Fr OK w.heap (dr w3 m4).heap := hF3
   generalize dr w3 m4 = w4 at *
   refine ⟨_,hc4.d11,?_⟩
   rw [decide_eq_true ha,br_true,if_pos ha]
   refine ⟨_,hc4.d0,?_⟩
   rw [onPtr_some]
   refine ⟨.iface K.st K.s,hc4.inv.c5,?_⟩
   rw [onIface_some]
   obtain ⟨o_w5,ho_w5,hS_w5,back_w5⟩ := hc4.inv.store
   obtain ⟨fn_w5,rc_w5,hm1_w5,hm2_w5,hm3_w5⟩ := hc4.inv.sp.get o.1.1 x.1 hS_w5 hle
   refine ⟨fn_w5,rc_w5,hm1_w5,?_⟩
   rw [hm2_w5,chk_true]
   refine hm3_w5.mono ?_; rintro _ w5 ⟨rfl,hS'_w5,hF_w5⟩
   obtain ⟨hM_w5,hFo_w5⟩ := back_w5 _ _ hS'_w5 hF_w5
   have hc_w5 := hc4.to hM_w5 hFo_w5
   refine ⟨_,_,rfl,?_⟩
   refine br_of (fun h5 => ?_) (fun h5 => ?_) <;> simp only [ZL,ZM] at h5
   ·rw [if_pos (show ((mGet O o.2 o.1.1 x.1).1.2) = false from h5)]; exact ⟨rfl,hc_w5,hF4.trans' hFo_w5⟩
   ·rw [if_neg (show ¬ ((mGet O o.2 o.1.1 x.1).1.2) = false by rw [show ((mGet O o.2 o.1.1 x.1).1.2) = true from h5]; simp)]
    refine (act_answer_ok hc_w5 2 (by omega) _).mono ?_; rintro _ w6 ⟨rfl,hc6,hF6⟩
    exact ⟨_,rfl,rfl,hc6,(hF4.trans' hFo_w5).trans' hF6⟩
  ·have hT : cTakes δ.arg = 3 := by rw [ha]; decide
   have h8 : ¬ δ.arg = 8 := by omega
   rw [hT] at hn ⊢
   rw [show IntKind.wrap .i64 ((3 : Int) - 1) = ((2 : Nat) : Int) by decide]
   simp only [show Int.toNat 3 = 3 by rfl,show 3 - 1 = 2 by rfl,show 3 - 2 = 1 by rfl]
   generalize dr w n = wb at *
   refine (act_under_ok hc (n := 2) (by omega)).mono ?_; rintro _ _ ⟨rfl,m1,rfl⟩
   refine ⟨_,rfl,?_⟩
   refine (act_open_ok (w := dr wb m1) hc _).mono ?_; rintro _ w2 ⟨rfl,hc2,hF2⟩
   replace hF2 : Fr OK w.heap w2.heap := hF0.trans' (h1 := wb.heap) hF2
   refine ⟨_,_,rfl,?_⟩
   have hle := dOpen_le (O := O) σ (dUnder δ 2)
   rw [show IntKind.wrap .i64 ((3 : Int) - 2) = ((1 : Nat) : Int) by decide]
   refine (act_under_ok hc2 (n := 1) (by omega)).mono ?_; rintro _ _ ⟨rfl,m2,rfl⟩
   refine ⟨_,rfl,?_⟩
   refine (word_Num_ok _ (dr w2 m2)).mono ?_; rintro _ _ ⟨rfl,m3,rfl⟩
   refine ⟨_,_,rfl,?_⟩
   have hc3 : CT O I OK n0 (dr (dr w2 m2) m3).heap m K D _ δ := hc2
   have hF3 : Fr OK w.heap (dr (dr w2 m2) m3).heap := hF2
   generalize dr (dr w2 m2) m3 = w3 at *
   generalize dOpen O σ (dUnder δ 2) = o at *
   generalize wNum (dUnder δ 1) = x at *
   refine br_of (fun h1 => ?_) (fun h1 => ?_) <;> simp only [ZL,ZM] at h1
   ·simp only [h1,true_or,if_true]; exact ⟨rfl,hc3,hF3⟩
   refine br_of (fun h2 => ?_) (fun h2 => ?_) <;> simp only [ZL,ZM] at h2
   ·simp only [h2,or_true,if_true]; exact ⟨rfl,hc3,hF3⟩
   simp only [h1,h2,Bool.true_eq_false,or_self,if_false]
   refine (act_under_ok hc3 (n := 0) (by omega)).mono ?_; rintro _ _ ⟨rfl,m4,rfl⟩
   refine ⟨_,rfl,?_⟩
   have hc4 : CT O I OK n0 (dr w3 m4).heap m K D _ δ := hc3
   have hF4 : Fr OK w.heap (dr w3 m4).heap := hF3
   generalize dr w3 m4 = w4 at *
   refine ⟨_,hc4.d11,?_⟩
   rw [decide_eq_false h8,br_false,if_neg h8]
   refine ⟨_,hc4.d0,?_⟩
   rw [onPtr_some]
   refine ⟨.iface K.st K.s,hc4.inv.c5,?_⟩
   rw [onIface_some]
   obtain ⟨o_w5,ho_w5,hS_w5,back_w5⟩ := hc4.inv.store
   obtain ⟨fn_w5,rc_w5,hm1_w5,hm2_w5,hm3_w5⟩ := hc4.inv.sp.put o.1.1 x.1 (dUnder δ 0) hS_w5 hle
   refine ⟨fn_w5,rc_w5,hm1_w5,?_⟩
   rw [hm2_w5,chk_true]
   refine hm3_w5.mono ?_; rintro _ w5 ⟨rfl,hS'_w5,hF_w5⟩
   obtain ⟨hM_w5,hFo_w5⟩ := back_w5 _ _ hS'_w5 hF_w5
   have hc_w5 := hc4.to hM_w5 hFo_w5
   refine ⟨_,rfl,?_⟩
   refine br_of (fun h5 => ?_) (fun h5 => ?_) <;> simp only [ZL,ZM] at h5
   ·rw [if_pos (show ((mPut O o.2 o.1.1 x.1 (dUnder δ 0)).1) = false from h5)]; exact ⟨rfl,hc_w5,hF4.trans' hFo_w5⟩
   ·rw [if_neg (show ¬ ((mPut O o.2 o.1.1 x.1 (dUnder δ 0)).1) = false by rw [show ((mPut O o.2 o.1.1 x.1 (dUnder δ 0)).1) = true from h5]; simp)]
    refine (act_answer_ok hc_w5 3 (by omega) _).mono ?_; rintro _ w6 ⟨rfl,hc6,hF6⟩
    exact ⟨_,rfl,rfl,hc6,(hF4.trans' hFo_w5).trans' hF6⟩
theorem Inv.inp (hM : Inv O I OK n0 w.heap m K σ) : ∃ i : Hd,w.cell? ⟨m,65,none⟩ = some (.slice i.p i.n i.c) /\ (∃ o,SlH w.heap o eU32 i σ.input) /\
  ∀ (x : Int) (r : List Int),σ.input = x :: r -> ∀ {k' : World -> Prop},(∀ w2,Inv O I OK n0 w2.heap m K { σ with input := r } -> Fr OK w.heap w2.heap -> k' w2) -> stores w m 65 [.slice (cutAt i.p i.c 1 1) (i.n - 1) (i.c - 1)] k' := by
 obtain ⟨ev,inp,κ,hp⟩ := hM.mc
 refine ⟨inp,by rw [hp.bk.cell,show 65 = 64 + 1 by rfl,mc_hi hp.l1 hp.l2 hp.l3]; rfl,⟨_,hp.inp⟩,fun x r hxr k' H => ?_⟩
 refine stores_i hp.bk (by rw [mc_len hp.l1 hp.l2 hp.l3]; simp) ?_; intro w2 hB2 hF2 hz2
 simp only [sets] at hB2
 rw [show 65 = 64 + 1 by rfl,ms_hi hp.l1 hp.l2 hp.l3] at hB2
 have hln := hp.inp.len; have hcap := hp.inp.cap
 rw [hxr,List.length_cons] at hln
 have hcut := hp.inp.cut (lo := 1) (hi := inp.n) (mx := inp.c) (by omega) (by omega) (by omega) (by omega)
 have et : (σ.input.drop 1).take (inp.n - 1) = r := by rw [hxr,List.drop_one,List.tail_cons]; exact List.take_of_length_le (by omega)
 rw [et] at hcut
 refine H w2 ⟨hM.sp,Nat.le_trans hM.le hF2.le,hM.up,?_⟩ (hF2.mono fun y _ e => by rw [e]; exact hp.okm)
 refine MC.toM (hp.upd (σ' := { σ with input := r }) (ev' := ev) (inp' := ⟨cutAt inp.p inp.c 1 1,inp.n - 1,inp.c - 1⟩) hM.sp 8 (hF2.mono fun y _ e => by rw [e]; exact ⟨hp.okm,.inr hp.km⟩) hM.ups hB2 hp.l1 hp.l2 hp.l3 (.inl ⟨by omega,rfl⟩) (.inl ⟨by omega,rfl⟩) (.inl ⟨by omega,rfl⟩) (.inl ⟨by omega,rfl⟩) ⟨by omega,rfl⟩ ⟨by omega,rfl⟩ (.inl ⟨by omega,rfl,rfl⟩) (.inr ?_))
 exact hcut.fr hF2 (fun y _ h e => by have := h.2; have := hp.km; subst e; omega) (fun y hy h => ⟨h.1,by rw [ret_lt hy]; exact h.2⟩)
theorem act_plain_ok (hc : CT O I OK n0 w.heap m K D σ δ) (hq : QInv σ.queue) (hl : σ.events.length < 1000000) : Calls P F.Z2u #[.pointer (some ⟨D.d,0,none⟩)] w (DTo O I OK n0 m K D δ (.int .i64 0) (dPlain σ δ) w) := by
 refine oZ2u ?_
 refine ⟨_,hc.d11,?_⟩
 unfold dPlain
 refine br_of (fun h1 => ?_) (fun h1 => ?_) <;> simp only [ZJ,ZK,ZL,ZM,ZN,ZO,ZP,ZQ,ZR] at h1
 ·rw [if_pos h1]
  refine ⟨_,hc.d0,?_⟩
  rw [onPtr_some]
  refine ⟨_,hc.inv.c7,?_⟩
  obtain ⟨o,ho,hQ,back⟩ := hc.inv.queue
  refine (queue_Turn_ok hQ hq).mono ?_; rintro _ w2 ⟨t,rfl,hQ2,hF2⟩
  obtain ⟨hM2,hFo2⟩ := back _ _ hQ2 hF2
  refine ⟨_,rfl,?_⟩
  refine (act_answer_ok (hc.to hM2 hFo2) 0 (by omega) _).mono ?_; rintro _ w8 ⟨rfl,hc8,hF8⟩
  exact ⟨_,rfl,rfl,hc8,hFo2.trans' hF8⟩
 rw [if_neg h1]
 refine br_of (fun h2 => ?_) (fun h2 => ?_) <;> simp only [ZJ,ZK,ZL,ZM,ZN,ZO,ZP,ZQ,ZR] at h2
 ·rw [if_pos h2]
  refine ⟨_,hc.d0,?_⟩
  rw [onPtr_some]
  refine hc.inv.shalted true ?_; intro w2 hM2 hF2 _ _
  have hc2 := hc.to hM2 hF2
  refine ⟨_,hc2.d0,?_⟩
  refine (act_tell_ok hM2 hl 4 0 ⟨0,0⟩).mono ?_; rintro _ w3 ⟨rfl,hM3,hF3⟩
  have hc3 := hc2.to hM3 hF3
  refine ⟨rfl,?_⟩
  refine (act_answer_ok hc3 0 (by omega) _).mono ?_; rintro _ w8 ⟨rfl,hc8,hF8⟩
  exact ⟨_,rfl,rfl,hc8,(hF2.trans' hF3).trans' hF8⟩
 rw [if_neg h2]
 refine br_of (fun h3 => ?_) (fun h3 => ?_) <;> simp only [ZJ,ZK,ZL,ZM,ZN,ZO,ZP,ZQ,ZR] at h3
 ·rw [if_pos h3]
  refine ⟨_,hc.d0,?_⟩
  rw [onPtr_some]
  refine ⟨_,hc.inv.c67,?_⟩
  refine (act_num_ok _ w).mono ?_; rintro _ _ ⟨rfl,n,rfl⟩
  refine ⟨_,rfl,?_⟩
  refine (act_answer_ok (w := dr w n) hc 0 (by omega) _).mono ?_; rintro _ w8 ⟨rfl,hc8,hF8⟩
  exact ⟨_,rfl,rfl,hc8,hF8⟩
 rw [if_neg h3]
 refine br_of (fun h4 => ?_) (fun h4 => ?_) <;> simp only [ZJ,ZK] at h4
 ·rw [if_pos h4]
  obtain ⟨i,ci,⟨o,hi⟩,hset⟩ := hc.inv.inp
  have hln := hi.len; have hcap := hi.cap
  refine ⟨_,hc.d0,?_⟩
  rw [onPtr_some]
  refine ⟨_,_,_,ci,?_⟩
  refine br_of (fun h5 => ?_) (fun h5 => ?_) <;> simp only [ZJ,ZK,ZL,ZM,ZN,ZO,ZP,ZQ,ZR] at h5
  ·cases hin : σ.input with
   | nil => rw [hin] at hln; simp at hln; omega
   | cons x r =>
    simp only
    have hc0 : CT O I OK n0 w.drew.heap m K D σ δ := hc
    refine ⟨_,hc0.d0,_,hc0.d0,?_⟩
    rw [onPtr_some]
    refine ⟨_,_,_,ci,chk_of (by simp; omega) ?_⟩
    rw [hin] at hi hln
    refine hi.idx1 (w := w.drew) (i := 0) (x := x) rfl ?_; intro g o' _ hcell
    refine ⟨x,by simpa using hcell,_,hc0.d0,?_⟩
    rw [onPtr_some]
    simp only [List.length_cons] at hln
    refine ⟨_,_,_,ci,chk_of (by simp; omega) ?_⟩
    rw [onPtr_some]
    obtain ⟨i',ci',_,hset'⟩ := Inv.inp (w := w.drew) hc0.inv
    have hii : i' = i := by
     have : some (Value.slice i'.p i'.n i'.c) = some (Value.slice i.p i.n i.c) := ci'.symm.trans ci
     simp only [Z3,Z7] at this
     cases i'; cases i; simp only [Hd.mk.injEq]; exact this
    subst hii
    refine hset' x r hin ?_; intro w2 hM2 hF2
    have hc2 := hc0.to hM2 hF2
    refine ⟨trivial,?_⟩
    refine (act_answer_ok hc2 0 (by omega) _).mono ?_; rintro _ w8 ⟨rfl,hc8,hF8⟩
    exact ⟨_,rfl,rfl,hc8,Fr.trans' (h := w.heap) hF2 hF8⟩
  ·have hin : σ.input = [] := List.eq_nil_of_length_eq_zero (by omega)
   rw [hin]
   refine (act_answer_ok hc 0 (by omega) _).mono ?_; rintro _ w8 ⟨rfl,hc8,hF8⟩
   exact ⟨_,rfl,rfl,hc8,hF8⟩
 ·rw [if_neg h4]
  refine (act_answer_ok hc 0 (by omega) _).mono ?_; rintro _ w8 ⟨rfl,hc8,hF8⟩
  exact ⟨_,rfl,rfl,hc8,hF8⟩
theorem act_numbered_ok (hc : CT O I OK n0 w.heap m K D σ δ) (hq : QInv σ.queue) (hz : O.size σ.s < 1000000) (h1 : 0 < δ.x.stack.length) : Calls P F.Z2v #[.pointer (some ⟨D.d,0,none⟩)] w (DTo O I OK n0 m K D δ (.int .i64 (dNumbered O σ δ).1) (dNumbered O σ δ).2 w) := by
 refine oZ2v ?_
 unfold vZ2v
 refine (act_under_ok hc (n := 0) h1).mono ?_; rintro _ _ ⟨rfl,n1,rfl⟩
 refine ⟨_,rfl,?_⟩
 refine (word_Num_ok _ (dr w n1)).mono ?_; rintro _ _ ⟨rfl,n2,rfl⟩
 refine ⟨_,_,rfl,?_⟩
 replace hc : CT O I OK n0 (dr (dr w n1) n2).heap m K D σ δ := hc
 have hF0 : Fr OK w.heap (dr (dr w n1) n2).heap := Fr.refl _ _
 generalize dr (dr w n1) n2 = wa at *
 unfold dNumbered
 generalize wNum (dUnder δ 0) = x
 dsimp only
 simp only [join_eq,br_or]
 refine ⟨_,hc.d11,?_⟩
 refine br_of (fun h15 => ?_) (fun h15 => ?_) <;> simp only [Bool.or_eq_true,Bool.or_eq_false_iff,ZJ,ZK,<- not_or] at h15
 ·rw [if_pos h15]
  refine br_of (fun h2 => ?_) (fun h2 => ?_) <;> simp only [ZL,ZM] at h2
  ·rw [if_pos h2]; exact ⟨rfl,hc,hF0⟩
  rw [if_neg (show ¬ x.2 = false by rw [h2]; simp)]
  refine br_of (fun h3 => ?_) (fun h3 => ?_) <;> simp only [ZJ,ZK,ZL,ZM,ZN,ZO,ZP,ZQ,ZR] at h3
  ·rw [if_pos (.inl h3)]; exact ⟨rfl,hc,hF0⟩
  refine br_of (fun h4 => ?_) (fun h4 => ?_) <;> simp only [ZJ,ZK,ZL,ZM,ZN,ZO,ZP,ZQ,ZR] at h4
  ·rw [if_pos (.inr h4)]; exact ⟨rfl,hc,hF0⟩
  rw [if_neg (show ¬ (x.1 < 0 \/ 3 < x.1) by omega)]
  refine ⟨_,hc.d11,?_⟩
  refine br_of (fun h5 => ?_) (fun h5 => ?_) <;> simp only [ZJ,ZK,ZL,ZM,ZN,ZO,ZP,ZQ,ZR] at h5
  ·rw [if_pos h5]
   refine (act_alloc_ok hc hz _ _).mono ?_; rintro _ w2 ⟨rfl,hc2,hF2⟩
   refine ⟨_,rfl,?_⟩
   refine br_of (fun h6 => ?_) (fun h6 => ?_) <;> simp only [ZJ,ZK,ZL,ZM,ZN,ZO,ZP,ZQ,ZR] at h6
   ·rw [if_pos h6]; exact ⟨rfl,hc2,hF0.trans' hF2⟩
   rw [if_neg (show ¬ (dAlloc O σ 1 x.1).1 < 0 by omega)]
   refine (word_Oop_ok _ w2).mono ?_; rintro _ _ ⟨rfl,n3,rfl⟩
   refine ⟨_,rfl,?_⟩
   refine (act_answer_ok (w := dr w2 n3) hc2 1 (by omega) _).mono ?_; rintro _ w3 ⟨rfl,hc3,hF3⟩
   exact ⟨_,rfl,rfl,hc3,(hF0.trans' hF2).trans' (h1 := w2.heap) hF3⟩
  rw [if_neg h5]
  refine (act_answer_ok hc 1 (by omega) _).mono ?_; rintro _ w3 ⟨rfl,hc3,hF3⟩
  have hF03 := hF0.trans' hF3
  refine ⟨_,rfl,_,hc3.d11,?_⟩
  refine br_of (fun h6 => ?_) (fun h6 => ?_) <;> simp only [ZJ,ZK,ZL,ZM,ZN,ZO,ZP,ZQ,ZR] at h6
  ·rw [if_pos h6]
   refine ⟨_,hc3.d0,?_⟩
   rw [onPtr_some]
   refine ⟨_,hc3.inv.c7,?_⟩
   obtain ⟨o,ho,hQ,back⟩ := hc3.inv.queue
   refine (queue_Wait_ok hQ hq x.1).mono ?_; rintro _ w4 ⟨t,rfl,hQ2,hF4⟩
   obtain ⟨hM4,hFo4⟩ := back _ _ hQ2 hF4
   exact ⟨_,rfl,rfl,hc3.to hM4 hFo4,hF03.trans' hFo4⟩
  rw [if_neg h6]
  refine br_of (fun h7 => ?_) (fun h7 => ?_) <;> simp only [ZJ,ZK] at h7
  ·rw [if_pos h7]
   refine ⟨_,hc3.d0,?_⟩
   rw [onPtr_some]
   refine ⟨_,hc3.inv.c7,?_⟩
   obtain ⟨o,ho,hQ,back⟩ := hc3.inv.queue
   refine (queue_Post_ok hQ hq x.1).mono ?_; rintro _ w4 ⟨t,rfl,hQ2,hF4⟩
   obtain ⟨hM4,hFo4⟩ := back _ _ hQ2 hF4
   exact ⟨_,rfl,rfl,hc3.to hM4 hFo4,hF03.trans' hFo4⟩
  rw [if_neg h7]
  have hc4 : CT O I OK n0 w3.drew.heap m K D _ δ := hc3
  refine ⟨_,hc4.d0,?_⟩
  rw [onPtr_some]
  refine ⟨_,hc4.inv.c7,_,hc4.d0,?_⟩
  rw [onPtr_some]
  refine ⟨_,hc4.inv.c67,?_⟩
  obtain ⟨o,ho,hQ,back⟩ := hc4.inv.queue
  refine (queue_Sleep_ok (w := w3.drew) hQ hq _).mono ?_; rintro _ w4 ⟨t,rfl,hQ2,hF4⟩
  obtain ⟨hM4,hFo4⟩ := back _ _ hQ2 hF4
  have hc5 := hc4.to hM4 hFo4
  exact ⟨_,rfl,⟨hc5.inv.c67,hc5.d0,hc5.d0,trivial⟩,rfl,hc5,hF03.trans' (h1 := w3.heap) hFo4⟩
 rw [if_neg h15]
 refine br_of (fun h22 => ?_) (fun h22 => ?_) <;> simp only [ZJ,ZK] at h22
 ·rw [if_pos h22]
  refine br_of (fun h2 => ?_) (fun h2 => ?_) <;> simp only [ZL,ZM] at h2
  ·rw [if_pos h2]; exact ⟨rfl,hc,hF0⟩
  rw [if_neg (show ¬ x.2 = false by rw [h2]; simp)]
  refine br_of (fun h3 => ?_) (fun h3 => ?_) <;> simp only [ZJ,ZK,ZL,ZM,ZN,ZO,ZP,ZQ,ZR] at h3
  ·rw [if_pos (.inl h3)]; exact ⟨rfl,hc,hF0⟩
  refine br_of (fun h4 => ?_) (fun h4 => ?_) <;> simp only [ZJ,ZK,ZL,ZM,ZN,ZO,ZP,ZQ,ZR] at h4
  ·rw [if_pos (.inr h4)]; exact ⟨rfl,hc,hF0⟩
  rw [if_neg (show ¬ (x.1 < 0 \/ x.1 < x.1) by omega)]
  refine ⟨_,hc.d11,?_⟩
  refine br_of (fun h5 => ?_) (fun h5 => ?_) <;> simp only [ZJ,ZK,ZL,ZM,ZN,ZO,ZP,ZQ,ZR] at h5
  ·rw [if_pos h5]
   refine (act_alloc_ok hc hz _ _).mono ?_; rintro _ w2 ⟨rfl,hc2,hF2⟩
   refine ⟨_,rfl,?_⟩
   refine br_of (fun h6 => ?_) (fun h6 => ?_) <;> simp only [ZJ,ZK,ZL,ZM,ZN,ZO,ZP,ZQ,ZR] at h6
   ·rw [if_pos h6]; exact ⟨rfl,hc2,hF0.trans' hF2⟩
   rw [if_neg (show ¬ (dAlloc O σ 1 x.1).1 < 0 by omega)]
   refine (word_Oop_ok _ w2).mono ?_; rintro _ _ ⟨rfl,n3,rfl⟩
   refine ⟨_,rfl,?_⟩
   refine (act_answer_ok (w := dr w2 n3) hc2 1 (by omega) _).mono ?_; rintro _ w3 ⟨rfl,hc3,hF3⟩
   exact ⟨_,rfl,rfl,hc3,(hF0.trans' hF2).trans' (h1 := w2.heap) hF3⟩
  rw [if_neg h5]
  refine (act_answer_ok hc 1 (by omega) _).mono ?_; rintro _ w3 ⟨rfl,hc3,hF3⟩
  have hF03 := hF0.trans' hF3
  refine ⟨_,rfl,_,hc3.d11,?_⟩
  refine br_of (fun h6 => ?_) (fun h6 => ?_) <;> simp only [ZJ,ZK,ZL,ZM,ZN,ZO,ZP,ZQ,ZR] at h6
  ·rw [if_pos h6]
   refine ⟨_,hc3.d0,?_⟩
   rw [onPtr_some]
   refine ⟨_,hc3.inv.c7,?_⟩
   obtain ⟨o,ho,hQ,back⟩ := hc3.inv.queue
   refine (queue_Wait_ok hQ hq x.1).mono ?_; rintro _ w4 ⟨t,rfl,hQ2,hF4⟩
   obtain ⟨hM4,hFo4⟩ := back _ _ hQ2 hF4
   exact ⟨_,rfl,rfl,hc3.to hM4 hFo4,hF03.trans' hFo4⟩
  rw [if_neg h6]
  refine br_of (fun h7 => ?_) (fun h7 => ?_) <;> simp only [ZJ,ZK] at h7
  ·rw [if_pos h7]
   refine ⟨_,hc3.d0,?_⟩
   rw [onPtr_some]
   refine ⟨_,hc3.inv.c7,?_⟩
   obtain ⟨o,ho,hQ,back⟩ := hc3.inv.queue
   refine (queue_Post_ok hQ hq x.1).mono ?_; rintro _ w4 ⟨t,rfl,hQ2,hF4⟩
   obtain ⟨hM4,hFo4⟩ := back _ _ hQ2 hF4
   exact ⟨_,rfl,rfl,hc3.to hM4 hFo4,hF03.trans' hFo4⟩
  rw [if_neg h7]
  have hc4 : CT O I OK n0 w3.drew.heap m K D _ δ := hc3
  refine ⟨_,hc4.d0,?_⟩
  rw [onPtr_some]
  refine ⟨_,hc4.inv.c7,_,hc4.d0,?_⟩
  rw [onPtr_some]
  refine ⟨_,hc4.inv.c67,?_⟩
  obtain ⟨o,ho,hQ,back⟩ := hc4.inv.queue
  refine (queue_Sleep_ok (w := w3.drew) hQ hq _).mono ?_; rintro _ w4 ⟨t,rfl,hQ2,hF4⟩
  obtain ⟨hM4,hFo4⟩ := back _ _ hQ2 hF4
  have hc5 := hc4.to hM4 hFo4
  exact ⟨_,rfl,⟨hc5.inv.c67,hc5.d0,hc5.d0,trivial⟩,rfl,hc5,hF03.trans' (h1 := w3.heap) hFo4⟩
 rw [if_neg h22]
 refine br_of (fun h2 => ?_) (fun h2 => ?_) <;> simp only [ZL,ZM] at h2
 ·rw [if_pos h2]; exact ⟨rfl,hc,hF0⟩
 rw [if_neg (show ¬ x.2 = false by rw [h2]; simp)]
 refine br_of (fun h3 => ?_) (fun h3 => ?_) <;> simp only [ZJ,ZK,ZL,ZM,ZN,ZO,ZP,ZQ,ZR] at h3
 ·rw [if_pos (.inl h3)]; exact ⟨rfl,hc,hF0⟩
 refine br_of (fun h4 => ?_) (fun h4 => ?_) <;> simp only [ZJ,ZK,ZL,ZM,ZN,ZO,ZP,ZQ,ZR] at h4
 ·rw [if_pos (.inr h4)]; exact ⟨rfl,hc,hF0⟩
 rw [if_neg (show ¬ (x.1 < 0 \/ 62 < x.1) by omega)]
 refine ⟨_,hc.d11,?_⟩
 refine br_of (fun h5 => ?_) (fun h5 => ?_) <;> simp only [ZJ,ZK,ZL,ZM,ZN,ZO,ZP,ZQ,ZR] at h5
 ·rw [if_pos h5]
  refine (act_alloc_ok hc hz _ _).mono ?_; rintro _ w2 ⟨rfl,hc2,hF2⟩
  refine ⟨_,rfl,?_⟩
  refine br_of (fun h6 => ?_) (fun h6 => ?_) <;> simp only [ZJ,ZK,ZL,ZM,ZN,ZO,ZP,ZQ,ZR] at h6
  ·rw [if_pos h6]; exact ⟨rfl,hc2,hF0.trans' hF2⟩
  rw [if_neg (show ¬ (dAlloc O σ 1 x.1).1 < 0 by omega)]
  refine (word_Oop_ok _ w2).mono ?_; rintro _ _ ⟨rfl,n3,rfl⟩
  refine ⟨_,rfl,?_⟩
  refine (act_answer_ok (w := dr w2 n3) hc2 1 (by omega) _).mono ?_; rintro _ w3 ⟨rfl,hc3,hF3⟩
  exact ⟨_,rfl,rfl,hc3,(hF0.trans' hF2).trans' (h1 := w2.heap) hF3⟩
 rw [if_neg h5]
 refine (act_answer_ok hc 1 (by omega) _).mono ?_; rintro _ w3 ⟨rfl,hc3,hF3⟩
 have hF03 := hF0.trans' hF3
 refine ⟨_,rfl,_,hc3.d11,?_⟩
 refine br_of (fun h6 => ?_) (fun h6 => ?_) <;> simp only [ZJ,ZK,ZL,ZM,ZN,ZO,ZP,ZQ,ZR] at h6
 ·rw [if_pos h6]
  refine ⟨_,hc3.d0,?_⟩
  rw [onPtr_some]
  refine ⟨_,hc3.inv.c7,?_⟩
  obtain ⟨o,ho,hQ,back⟩ := hc3.inv.queue
  refine (queue_Wait_ok hQ hq x.1).mono ?_; rintro _ w4 ⟨t,rfl,hQ2,hF4⟩
  obtain ⟨hM4,hFo4⟩ := back _ _ hQ2 hF4
  exact ⟨_,rfl,rfl,hc3.to hM4 hFo4,hF03.trans' hFo4⟩
 rw [if_neg h6]
 refine br_of (fun h7 => ?_) (fun h7 => ?_) <;> simp only [ZJ,ZK] at h7
 ·rw [if_pos h7]
  refine ⟨_,hc3.d0,?_⟩
  rw [onPtr_some]
  refine ⟨_,hc3.inv.c7,?_⟩
  obtain ⟨o,ho,hQ,back⟩ := hc3.inv.queue
  refine (queue_Post_ok hQ hq x.1).mono ?_; rintro _ w4 ⟨t,rfl,hQ2,hF4⟩
  obtain ⟨hM4,hFo4⟩ := back _ _ hQ2 hF4
  exact ⟨_,rfl,rfl,hc3.to hM4 hFo4,hF03.trans' hFo4⟩
 rw [if_neg h7]
 have hc4 : CT O I OK n0 w3.drew.heap m K D _ δ := hc3
 refine ⟨_,hc4.d0,?_⟩
 rw [onPtr_some]
 refine ⟨_,hc4.inv.c7,_,hc4.d0,?_⟩
 rw [onPtr_some]
 refine ⟨_,hc4.inv.c67,?_⟩
 obtain ⟨o,ho,hQ,back⟩ := hc4.inv.queue
 refine (queue_Sleep_ok (w := w3.drew) hQ hq _).mono ?_; rintro _ w4 ⟨t,rfl,hQ2,hF4⟩
 obtain ⟨hM4,hFo4⟩ := back _ _ hQ2 hF4
 have hc5 := hc4.to hM4 hFo4
 exact ⟨_,rfl,⟨hc5.inv.c67,hc5.d0,hc5.d0,trivial⟩,rfl,hc5,hF03.trans' (h1 := w3.heap) hFo4⟩
end
end
end Go.Proofs.YtbedadcbbnmpkaaGreatDoor
