/- Panics, deferred calls, recover. -/
import Derived.Test.YtohbfncogdligaaSxMore
import Derived.Recover
namespace Go.Sx
open Go

structure Boxed (T : Prop) : Prop where
  val : T
theorem cut {T G : Prop} (h : Boxed T → G) (k : T) : G := h ⟨k⟩
/-- The contract of a call that panics. -/
def TriP (P : Program) (f : FuncId) (vs : List Value) (F : FH) (M : OM) (R : List PanicEntry → FH → OM → Prop) : Prop :=
  ∀ w0 w, Sat w0 F M w → Calls P f vs.toArray w fun e w' => ∃ c F' M', e = .panicked c ∧ Fle F F' ∧ Sat w0 F' M' w' ∧ R c F' M'
def DoneP (P : Program) (w0 : World) (fn : Func) (F : FH) (R : List PanicEntry → FH → OM → Prop) : Exit → Act → World → Prop :=
  bodyPost P fn fun e w' => ∃ c F' M', e = .panicked c ∧ Fle F F' ∧ Sat w0 F' M' w' ∧ R c F' M'
/-- a body with deferred calls -/
def DoneD (P : Program) (w0 : World) (fn : Func) (F : FH) (R : Value → FH → OM → Prop) : Exit → Act → World → Prop :=
  bodyPostD P fn fun e w' => ∃ v F' M', e = .returned v ∧ Fle F F' ∧ Sat w0 F' M' w' ∧ R v F' M'
def Pn (Q : Exit → Act → World → Prop) (c : List PanicEntry) : Act → World → Prop := fun a w => Q (.panic c) a w
/-- An operation that panics. -/
def StpP (P : Program) (w0 : World) (n : Nat) (L : SL) (D : List Deferred) (F : FH) (M : OM) (o : Oper) (K : List PanicEntry → FH → OM → Prop) : Prop :=
  ∀ a w, Fr L D n a → Sat w0 F M w → ∀ (KK : Act → World → Prop) (Q : Exit → Act → World → Prop),
    (∀ c F' M', K c F' M' → ∀ w', Sat w0 F' M' w' → Q (.panic c) a w') → o.wp P a w KK Q
theorem PI.doneP {P : Program} {w0 : World} {fn : Func} {F : FH} {R : List PanicEntry → FH → OM → Prop} {d : Nat} : PI (DoneP P w0 fn F R) d := by
  intro c a v w hq
  exact ⟨hq.1, hq.2⟩
/-- the slot that a result lies in -/
def rslot : ResultVar → Nat
  | .tmp t => t
  | .cell a _ => a
theorem results_put {fn : Func} {tmps : Array Value} {d : Nat} {v : Value} (h : (fn.results.toList.all fun r => !(Nat.beq (rslot r) d)) = true) : results fn (tmps.setIfInBounds d v) = results fn tmps := by
  have e : ∀ t, results fn t = (do let vs ← fn.results.mapM (resVar t); pure (if h : vs.size = 1 then vs[0] else .tuple vs)) := fun _ => rfl
  rw [e, e]
  have hm : fn.results.mapM (resVar (tmps.setIfInBounds d v)) = fn.results.mapM (resVar tmps) := by
    rw [← Array.toArray_toList (xs := fn.results), List.mapM_toArray, List.mapM_toArray]
    congr 1
    generalize fn.results.toList = l at h
    induction l with
    | nil => rfl
    | cons r l ih =>
      simp only [List.all_cons, Bool.and_eq_true] at h
      rw [List.mapM_cons, List.mapM_cons, ih h.2]
      have hne : d ≠ rslot r := by
        intro e; subst e; simp at h
      have : resVar (tmps.setIfInBounds d v) r = resVar tmps r := by
        cases r <;> simp [resVar, rslot, Array.getElem?_setIfInBounds] at hne ⊢ <;> simp [hne]
      rw [this]
  rw [hm]
theorem Leaves.of_results {P : Program} {fn : Func} {t t' : Array Value} {R : Ending → World → Prop} (h : results fn t = results fn t') : ∀ (ds : List Deferred) (u : FrameMode) (w : World), Leaves P fn t R ds u w → Leaves P fn t' R ds u w := by
  intro ds
  induction ds with
  | nil =>
    intro u w hl
    cases u with
    | run => exact hl
    | returning => obtain ⟨v, h1, h2⟩ := hl; exact ⟨v, by rw [← h]; exact h1, h2⟩
    | panicking c => exact hl
  | cons d ds ih =>
    intro u w hl
    obtain ⟨h1, fv, cap, f, args, h2, h3, h4⟩ := hl
    refine ⟨h1, fv, cap, f, args, h2, h3, h4.mono fun e u' w' he => ?_⟩
    cases e with
    | returned v => exact ih _ _ he
    | panicked c => exact ih _ _ he
    | outgrown => exact he
theorem PI.doneD {P : Program} {w0 : World} {fn : Func} {F : FH} {R : Value → FH → OM → Prop} {d : Nat} (h : (fn.results.toList.all fun r => !(Nat.beq (rslot r) d)) = true) : PI (DoneD P w0 fn F R) d := by
  intro c a v w hq
  exact Leaves.of_results (by simp only [Act.put]; exact results_put h) _ _ _ hq

section
variable {P : Program} {w0 : World} {n : Nat} {L : SL} {D : List Deferred} {F : FH} {M : OM} {Q : Exit → Act → World → Prop}
  {ops : Array Oper} {rest : List Oper} {ty : TypeId} {ps : String} {af : Array Edge} {d : Nat} {ds : Option Nat}

theorem triP_of {f : FuncId} {fn : Func} {c : Code} {vs : List Value} {R : List PanicEntry → FH → OM → Prop} (hf : P.funcs[f]? = some fn) (hb : fn.body = some c) (hn : fn.ntmps = n) (hv : Nat.ble vs.length n = true)
    (h : ∀ w0, At w0 n (Wc P c (DoneP P w0 fn F R)) (slots 0 vs) [] F M) : TriP P f vs F M R := by
  intro w0 w hs
  refine calls_of_wp hf hb (h w0 _ w ⟨?_, ?_, rfl⟩ hs)
  · have := Nat.le_of_ble_eq_true hv; simp [hn]; omega
  · intro i v hi
    obtain ⟨_, h2⟩ := lk_slots vs 0 i v hi
    have hlt : i < vs.length := (List.getElem?_eq_some_iff.1 (by simpa using h2)).1
    simp only [Nat.sub_zero] at h2
    rw [Array.getElem?_append_left (by simpa using hlt)]
    simpa using h2
theorem triD_of {f : FuncId} {fn : Func} {c : Code} {vs : List Value} {R : Value → FH → OM → Prop} (hf : P.funcs[f]? = some fn) (hb : fn.body = some c) (hn : fn.ntmps = n) (hv : Nat.ble vs.length n = true)
    (h : ∀ w0, At w0 n (Wc P c (DoneD P w0 fn F R)) (slots 0 vs) [] F M) : Tri P f vs F M R := by
  intro w0 w hs
  refine calls_of_wp_defers hf hb (h w0 _ w ⟨?_, ?_, rfl⟩ hs)
  · have := Nat.le_of_ble_eq_true hv; simp [hn]; omega
  · intro i v hi
    obtain ⟨_, h2⟩ := lk_slots vs 0 i v hi
    have hlt : i < vs.length := (List.getElem?_eq_some_iff.1 (by simpa using h2)).1
    simp only [Nat.sub_zero] at h2
    rw [Array.getElem?_append_left (by simpa using hlt)]
    simpa using h2

theorem r_pn_then {K : Act → World → Prop} {c : List PanicEntry} (h : At w0 n (Pn Q c) L D F M) : At w0 n (Pn (Exit.then K Q) c) L D F M := h
theorem r_pn_block {id : Nat} {c : List PanicEntry} (h : At w0 n (Pn Q c) L D F M) : At w0 n (Pn (Exit.inBlock id Q) c) L D F M := h
theorem r_pn_scope {c : List PanicEntry} (h : At w0 n (Pn Q c) L D F M) : At w0 n (Pn (Exit.noGoto Q) c) L D F M := h
/-- the end of a body that panics -/
theorem r_endP {fn : Func} {F0 : FH} {c : List PanicEntry} {M2 : OM} {R : List PanicEntry → FH → OM → Prop} (hF : Fle F0 F) (hm : M2.Sublist M) (h : R c F M2) : At w0 n (Pn (DoneP P w0 fn F0 R) c) L [] F M :=
  fun _ _ hf hs => ⟨hf.defers, c, F, M2, rfl, hF, hs.sub (Fle.refl F) hm, h⟩

/-- an operation that panics ends the region -/
theorem r_sP {o : Oper} (hg : o.guard = none) (h : StpP P w0 n L D F M o fun c F' M' => At w0 n (Pn Q c) L D F' M') : At w0 n (Wl P ops Q (o :: rest)) L D F M := by
  intro a w hf hs
  unfold Wl wpList
  simp only [hg, Region.wanted, if_true]
  exact .inl (h a w hf hs _ _ fun c F' M' hk w' hs' => hk a w' hf hs')
theorem d_oneP {Fc : FH} {Mc M2 : OM} {s : Option Nat} (i : Nat) {fuel : Nat} {listed : Array Bool} {oi : Oper} (hi : ops[i]? = some oi) (hr : (Region.ready .any ops listed == [i]) = true) (hg : oi.guard = none)
    (h : StpP P w0 n L D F M oi fun c F' M' => At w0 n (Pn Q c) L D F' M') : Dr P w0 n ops Q D (fuel + 1) listed s Fc Mc M2 L F M := by
  intro hclo a w hf hs
  have hr' : Region.ready .any ops listed = [i] := by simpa using hr
  refine ⟨fun h0 => (by rw [hr'] at h0; cases h0), fun j hj => ?_⟩
  rw [hr'] at hj
  obtain rfl : j = i := by simpa using hj
  unfold wpOp
  simp only [hi, Region.wanted, hg, if_true]
  exact .inl (h a w hf hs _ _ fun c F' M' hk w' hs' => hk a w' hf hs')
theorem s_callP {f : FuncId} [hcl : Cl P f] {xs : List Operand} {tys : Array TypeId} {vs : List Value} {R K : List PanicEntry → FH → OM → Prop} (hx : evs L xs = some vs) (h : TriP P f vs F M R)
    (k : ∀ c F' M', Fle F F' → R c F' M' → K c F' M') :
    StpP P w0 n L D F M ⟨ds, .call ⟨.value (.func f), xs.toArray, tys⟩, ty, ps, af, none⟩ K := by
  intro a w hf hs KK Q hK
  unfold Oper.wp
  have hr : (execOp a.eval ⟨ds, .call ⟨.value (.func f), xs.toArray, tys⟩, ty, ps, af, none⟩).run P w = .ok (.enter f vs.toArray) w := by
    have := hf.evals hx
    simp [execOp, resolve, Act.eval, Deferred.ofValue, invoke, this, hcl.run]
  rw [hr, Oper.upon_enter]
  refine (h w0 w hs).mono fun e w' he => ?_
  obtain ⟨c, F', M', rfl, hl, hs', hR⟩ := he
  exact hK _ _ _ (k c F' M' hl hR) _ hs'
theorem s_panic {x : Operand} {t : TypeId} {v : Value} {K : List PanicEntry → FH → OM → Prop} (hx : ev L x = some (.iface t v)) (k : K [{ v := .iface t v, recovered := false }] F M) :
    StpP P w0 n L D F M ⟨ds, .panic x, ty, ps, af, none⟩ K := by
  intro a w hf hs KK Q hK
  unfold Oper.wp
  have hr : (execOp a.eval ⟨ds, .panic x, ty, ps, af, none⟩).run P w = .halt (.panic (.iface t v)) w := by
    simp [execOp, hf.eval hx, Instr.panic, goPanic, Sem.run]
  rw [hr, Oper.upon_panic]
  exact hK _ _ _ k _ hs

/-! values for it -/
theorem v_makeFunc {f : FuncId} {xs ys : List Operand} {vs us : List Value} (hx : evs L xs = some vs) (hy : evs L ys = some us) :
    RunV P w0 n L D F M (.makeFunc (.func f) xs.toArray ys.toArray) ty (.func (.func f) ⟨vs⟩ ⟨us⟩) := fun a w hf _ _ _ _ _ => by
  have h1 := hf.evals hx
  have h2 := hf.evals hy
  simp [execOp, Instr.makeFunc, h1, h2]
/-- a deferred call of a function value -/
theorem r_defer {x : Operand} {f : FuncId} {us : List Value} {tys : Array TypeId} (hx : ev L x = some (.func (.func f) ⟨[]⟩ ⟨us⟩)) (h : At w0 n (Wl P ops Q rest) L ({ target := .fn (.func f) ⟨us⟩, args := #[] } :: D) F M) :
    At w0 n (Wl P ops Q (⟨none, .defer ⟨.value x, #[], tys⟩, ty, ps, af, none⟩ :: rest)) L D F M := by
  intro a w hf hs
  have hr : (execOp a.eval ⟨none, .defer ⟨.value x, #[], tys⟩, ty, ps, af, none⟩).run P w = .ok (.defer { target := .fn (.func f) ⟨us⟩, args := #[] }) w := by
    simp [execOp, resolve, hf.eval hx, Deferred.ofValue]
  unfold Wl wpList
  simp only [Region.wanted, if_true]
  refine .inl ?_
  unfold Oper.wp
  rw [hr, Oper.upon_defer]
  have := h { a with defers := { target := .fn (.func f) ⟨us⟩, args := #[] } :: a.defers } w ⟨hf.size, hf.get, by simp [hf.defers]⟩ hs
  exact this

/-- The contract of a deferred function: mode before and after. -/
def TriU (P : Program) (f : FuncId) (vs : List Value) (u u' : FrameMode) (F : FH) (M : OM) (R : FH → OM → Prop) : Prop :=
  ∀ w0 w, Sat w0 F M w → CallsD P f vs.toArray u w fun e u2 w' => ∃ v F' M', e = .returned v ∧ u2 = u' ∧ Fle F F' ∧ Sat w0 F' M' w' ∧ R F' M'
/-- A body with one deferred call returns. -/
theorem r_endD {fn : Func} {F0 : FH} {f : FuncId} [hcl : Cl P f] {us : List Value} {rs : List ResultVar} {R : Value → FH → OM → Prop} {RU : FH → OM → Prop} (K : Act → World → Prop) (hK : K = Nm (DoneD P w0 fn F0 R) ∨ K = Rt (DoneD P w0 fn F0 R)) (hF : Fle F0 F)
    (hr : fn.results = rs.toArray) (hU : TriU P f us .returning .returning F M RU) (h : ∀ F' M', Fle F F' → RU F' M' → ∃ vs M2, RVs P L M' rs vs ∧ M2.Sublist M' ∧ R (tup vs) F' M2) :
    At w0 n K L [{ target := .fn (.func f) ⟨us⟩, args := #[] }] F M := by
  intro a w hf hs
  have key : Leaves P fn a.tmps (fun e w' => ∃ v F' M', e = .returned v ∧ Fle F0 F' ∧ Sat w0 F' M' w' ∧ R v F' M') a.defers .returning w := by
    rw [hf.defers]
    refine ⟨(by intro h; cases h), .func f, ⟨us⟩, f, us.toArray, rfl, by simp [invoke, hcl.run], ?_⟩
    refine (hU w0 w hs).mono fun e u2 w' he => ?_
    obtain ⟨v, F', M', rfl, rfl, hl, hs', hR⟩ := he
    obtain ⟨vs, M2, hvs, hm, hR2⟩ := h F' M' hl hR
    have := results_run (P := P) (fn := fn) (D := a.defers) (L := L) (n := n) (a := a) ⟨hf.size, hf.get, rfl⟩ hs' hr hvs
    exact ⟨tup vs, this, tup vs, F', M2, rfl, hF.trans hl, hs'.sub (Fle.refl _) hm, hR2⟩
  rcases hK with rfl | rfl <;> exact key
/-- A body with one deferred call panics, and the call recovers. -/
theorem r_endDP {fn : Func} {F0 : FH} {f : FuncId} [hcl : Cl P f] {us : List Value} {rs : List ResultVar} {R : Value → FH → OM → Prop} {RU : FH → OM → Prop} {v : Value} (hF : Fle F0 F)
    (hr : fn.results = rs.toArray) (hU : TriU P f us (.panicking [{ v, recovered := false }]) (.panicking [{ v, recovered := true }]) F M RU) (h : ∀ F' M', Fle F F' → RU F' M' → ∃ vs M2, RVs P L M' rs vs ∧ M2.Sublist M' ∧ R (tup vs) F' M2) :
    At w0 n (Pn (DoneD P w0 fn F0 R) [{ v, recovered := false }]) L [{ target := .fn (.func f) ⟨us⟩, args := #[] }] F M := by
  intro a w hf hs
  have key : Leaves P fn a.tmps (fun e w' => ∃ v F' M', e = .returned v ∧ Fle F0 F' ∧ Sat w0 F' M' w' ∧ R v F' M') a.defers (.panicking [{ v, recovered := false }]) w := by
    rw [hf.defers]
    refine ⟨(by intro h; cases h), .func f, ⟨us⟩, f, us.toArray, rfl, by simp [invoke, hcl.run], ?_⟩
    refine (hU w0 w hs).mono fun e u2 w' he => ?_
    obtain ⟨v, F', M', rfl, rfl, hl, hs', hR⟩ := he
    obtain ⟨vs, M2, hvs, hm, hR2⟩ := h F' M' hl hR
    have := results_run (P := P) (fn := fn) (D := a.defers) (L := L) (n := n) (a := a) ⟨hf.size, hf.get, rfl⟩ hs' hr hvs
    exact ⟨tup vs, this, tup vs, F', M2, rfl, hF.trans hl, hs'.sub (Fle.refl _) hm, hR2⟩
  exact key
/-! interfaces -/
theorem v_makeInterface {t : TypeId} {u : TypeDesc} {s : Nat} {g : Bool} [ht : Ty P t u s g] {x : Operand} {v : Value} (hx : ev L x = some v) (hu : (match u with | .interface _ => true | _ => false) = false) :
    RunV P w0 n L D F M (.makeInterface t x) ty (.iface t v) := fun a w hf _ _ _ _ _ => by
  cases u <;> simp_all [execOp, hf.eval hx, Instr.makeInterface, run_underlying ht.und]
theorem run_eqIn_iface {t u : TypeId} {ms : Array (String × TypeId)} {vx vy : Value} {i : TypeInfo} (h : P.underlying t = some (.interface ms)) (hi : P.info? u = some i) (hc : i.comparable = true) (dd : Nat) (w : World) :
    (Op.equalIn (dd + 1) t (.iface u vx) (.iface u vy)).run P w = (Op.equalIn dd u vx vy).run P w := by simp [Op.equalIn, run_underlying h, typeInfo, hi, hc]
theorem run_eqIn_nilI {t u : TypeId} {ms : Array (String × TypeId)} {v : Value} (h : P.underlying t = some (.interface ms)) (dd : Nat) (w : World) :
    (Op.equalIn (dd + 1) t .nilIface (.iface u v)).run P w = .ok false w := by simp [Op.equalIn, run_underlying h]
theorem run_eqIn_unit {t : TypeId} (h : P.underlying t = some (.struct #[])) (hs : P.stoodInHeld t = false) (dd : Nat) (w : World) :
    (Op.equalIn (dd + 1) t (.agg ⟨[]⟩) (.agg ⟨[]⟩)).run P w = .ok true w := by simp [Op.equalIn, run_underlying h, hs]

theorem guard_NI {op : BinOp} {t u : TypeId} {x y : Operand} {v : Value} (w : World) : (eqGuard op t x y .nilIface (.iface u v)).run P w = .ok () w := by
  unfold eqGuard; split <;> rfl
theorem guard_II {op : BinOp} {t u u2 : TypeId} {x y : Operand} {v v2 : Value} (w : World) : (eqGuard op t x y (.iface u v) (.iface u2 v2)).run P w = .ok () w := by
  unfold eqGuard; split <;> rfl
theorem guard_IN {op : BinOp} {t u : TypeId} {x y : Operand} {v : Value} (w : World) : (eqGuard op t x y (.iface u v) .nilIface).run P w = .ok () w := by
  unfold eqGuard; split <;> rfl

/-! numbers whose value is worked out -/
theorem wr64n {i c : Int} (h : -9223372036854775808 ≤ i ∧ i ≤ 9223372036854775807) (hc : i = c) : IntKind.i64.wrap i = c := by rw [wr64 h, hc]
theorem wr32n {i c : Int} (h : -2147483648 ≤ i ∧ i ≤ 2147483647) (hc : i = c) : IntKind.i32.wrap i = c := by
  subst hc
  unfold IntKind.wrap
  simp only [IntKind.bits, IntKind.signed]
  simp
  omega

theorem and255 (i : Int) : ∃ c : Int, (0 ≤ c ∧ c ≤ 255) ∧ ∀ (t : TypeId) (w : World), (Go.binOp .and t (.int .i64 i) (.int .i64 255)).run P w = .ok (.int .i64 c) w := by
  have h : (BitVec.ofInt 64 i &&& BitVec.ofInt 64 255).toNat ≤ 255 := by
    rw [BitVec.toNat_and]
    exact Nat.le_trans Nat.and_le_right (by decide)
  refine ⟨((BitVec.ofInt 64 i &&& BitVec.ofInt 64 255).toNat : Int), ⟨by omega, by omega⟩, fun t w => ?_⟩
  have hw : IntKind.i64.wrap ((BitVec.ofInt 64 i &&& BitVec.ofInt 64 255).toNat : Int) = ((BitVec.ofInt 64 i &&& BitVec.ofInt 64 255).toNat : Int) := wr64 (by omega)
  have e : (Go.binOp .and t (.int .i64 i) (.int .i64 255) : Sem Value) = pure (.int .i64 (IntKind.i64.wrap ((BitVec.ofInt 64 i &&& BitVec.ofInt 64 255).toNat : Int))) := rfl
  rw [e, hw]
  rfl
theorem run_eqIn_bool {t : TypeId} {a b : Bool} (h : P.underlying t = some .bool) (dd : Nat) (w : World) : (Op.equalIn (dd + 1) t (.bool a) (.bool b)).run P w = .ok (a == b) w := by simp [Op.equalIn, run_underlying h]
theorem b_neqB {t : TypeId} {a b : Bool} (h : P.underlying t = some .bool) (w : World) : (Go.binOp .neq t (.bool a) (.bool b)).run P w = .ok (.bool (!(a == b))) w := by
  have : (Op.equalIn (9999 + 1) t (.bool a) (.bool b)).run P w = .ok (a == b) w := run_eqIn_bool h 9999 w
  simp only [Go.binOp]
  simp [Op.equal, Op.maxDepth, this]
theorem guard_B {op : BinOp} {t : TypeId} {x y : Operand} {a b : Bool} (w : World) : (eqGuard op t x y (.bool a) (.bool b)).run P w = .ok () w := by
  unfold eqGuard; split <;> rfl

/-! a deferred body that recovers -/
def AtS (w0 : World) (n : Nat) (K : Act → List Frame → World → Prop) (L : SL) (F : FH) (M : OM) (cs : List Frame) : Prop :=
  ∀ a w, Fr L [] n a → Sat w0 F M w → K a cs w
def WlS (P : Program) (ops : Array Oper) (Q : Exit → Act → List Frame → World → Prop) (l : List Nat) : Act → List Frame → World → Prop := fun a cs w => wpOpsS P ops Q l a cs w
theorem u_recover {QS : Exit → Act → List Frame → World → Prop} {cs cs' : List Frame} {v : Value} {l : List Nat} {i : Nat} {tys : Array TypeId} (hi : ops[i]? = some ⟨some d, .call ⟨.builtin .recover, #[], tys⟩, ty, ps, af, none⟩) (hr : recoverD cs = some (v, cs')) (hlt : Nat.blt d n = true)
    (k : AtS w0 n (WlS P ops QS l) ((d, v) :: L) F M cs') : AtS w0 n (WlS P ops QS (i :: l)) L F M cs := by
  intro a w hf hs
  have h1 : (execOp a.eval ⟨some d, .call ⟨.builtin .recover, #[], tys⟩, ty, ps, af, none⟩).run P w = .ok .recover w := by simp [execOp, resolve, invoke, builtin]
  unfold WlS
  simp only [wpOpsS, hi, Region.wanted, if_true, h1, hr]
  exact k _ _ (hf.put (by simpa [Nat.blt_eq] using hlt) v) hs
theorem u_recoverN {QS : Exit → Act → List Frame → World → Prop} {cs : List Frame} {l : List Nat} {i : Nat} {tys : Array TypeId} (hi : ops[i]? = some ⟨some d, .call ⟨.builtin .recover, #[], tys⟩, ty, ps, af, none⟩) (hr : recoverD cs = none) (hlt : Nat.blt d n = true)
    (k : AtS w0 n (WlS P ops QS l) ((d, .nilIface) :: L) F M cs) : AtS w0 n (WlS P ops QS (i :: l)) L F M cs := by
  intro a w hf hs
  have h1 : (execOp a.eval ⟨some d, .call ⟨.builtin .recover, #[], tys⟩, ty, ps, af, none⟩).run P w = .ok .recover w := by simp [execOp, resolve, invoke, builtin]
  unfold WlS
  simp only [wpOpsS, hi, Region.wanted, if_true, h1, hr]
  exact k _ _ (hf.put (by simpa [Nat.blt_eq] using hlt) .nilIface) hs
theorem u_v {QS : Exit → Act → List Frame → World → Prop} {cs : List Frame} {l : List Nat} {i : Nat} {op : Op} {v : Value} (hi : ops[i]? = some ⟨some d, op, ty, ps, af, none⟩) (hv : RunV P w0 n L [] F M op ty v) (hlt : Nat.blt d n = true)
    (k : AtS w0 n (WlS P ops QS l) ((d, v) :: L) F M cs) : AtS w0 n (WlS P ops QS (i :: l)) L F M cs := by
  intro a w hf hs
  unfold WlS
  simp only [wpOpsS, hi, Region.wanted, if_true, hv a w hf hs, Oper.upon]
  exact k _ _ (hf.put (by simpa [Nat.blt_eq] using hlt) v) hs
theorem u_nil {QS : Exit → Act → List Frame → World → Prop} {cs : List Frame} (k : AtS w0 n (fun a cs w => QS .normal a cs w) L F M cs) : AtS w0 n (WlS P ops QS []) L F M cs := k
/-- the end of a deferred body -/
def DoneU (P : Program) (w0 : World) (fn : Func) (F : FH) (R : FH → OM → Prop) : Exit → Act → World → Prop :=
  bodyPost P fn fun e w' => ∃ v F' M', e = .returned v ∧ Fle F F' ∧ Sat w0 F' M' w' ∧ R F' M'
/-- region, then the rest, in which nothing recovers -/
theorem triU_of {f : FuncId} {fn : Func} {id : Nat} {y : Code} {vs : List Value} {u u' : FrameMode} {R : FH → OM → Prop} (hf : P.funcs[f]? = some fn) (hb : fn.body = some (.seq (.region id ops false) y)) (hn : fn.ntmps = n) (hv : Nat.ble vs.length n = true) (l : List Nat) (hl : List.range ops.size = l)
    (h : ∀ w0 (c0 : Frame) cs, c0.mode = u → ∀ QS, (∀ L', At w0 n (Wc P y (DoneU P w0 fn F R)) L' [] F M → AtS w0 n (fun a cs w => QS .normal a cs w) L' F M ({ c0 with mode := u' } :: cs)) → AtS w0 n (WlS P ops QS l) (slots 0 vs) F M (c0 :: cs)) :
    TriU P f vs u u' F M R := by
  subst hl
  intro w0 w hs
  refine callsD_of_wpS hf hb fun c0 cs hu => ?_
  refine wpS_seq (wpS_region ?_)
  refine h w0 c0 cs hu _ (fun L' hA a w hfa hsa => ?_) _ w ⟨?_, ?_, rfl⟩ hs
  · refine wpS_of_wp (wp_mono (hA a w hfa hsa) fun e a' w' hq => ?_)
    cases e with
    | normal => obtain ⟨hd, v, hr, v', F', M', he, hrest⟩ := hq; exact ⟨hd, u', rfl, v, hr, v', F', M', he, rfl, hrest⟩
    | ret => obtain ⟨hd, v, hr, v', F', M', he, hrest⟩ := hq; exact ⟨hd, u', rfl, v, hr, v', F', M', he, rfl, hrest⟩
    | panic c => obtain ⟨hd, v', F', M', he, hrest⟩ := hq; cases he
    | exit id => exact hq
    | goto l => exact hq
    | outgrown => obtain ⟨v', F', M', he, hrest⟩ := hq; cases he
  · have := Nat.le_of_ble_eq_true hv; simp [hn]; omega
  · intro i v hi
    obtain ⟨_, h2⟩ := lk_slots vs 0 i v hi
    have hlt : i < vs.length := (List.getElem?_eq_some_iff.1 (by simpa using h2)).1
    simp only [Nat.sub_zero] at h2
    rw [Array.getElem?_append_left (by simpa using hlt)]
    simpa using h2
theorem r_endU {fn : Func} {F0 : FH} {R : FH → OM → Prop} (hr : fn.results = #[]) (hF : Fle F0 F) (h : R F M) : At w0 n (Nm (DoneU P w0 fn F0 R)) L [] F M :=
  fun _ _ hf hs => ⟨hf.defers, _, results_none hr _ _ _, _, F, M, rfl, hF, hs, h⟩
end
end Go.Sx
