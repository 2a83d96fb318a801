/- Rules for single operations, over any program. -/
import Derived.Test.YtohbfncogdligaaSxCore
import Derived.Maps.AppendAt
namespace Go.Sx
open Go

class Ty (P : Program) (t : TypeId) (u : outParam TypeDesc) (s : outParam Nat) (g : outParam Bool) : Prop where
  und : P.underlying t = some u
  siz : ∀ w, (sizeOf t).run P w = .ok s w
  agg : ∀ w, (isAgg t).run P w = .ok g w
class Zr (P : Program) (t : TypeId) (z : outParam Value) : Prop where
  zero : ∀ w, (zeroValue t).run P w = .ok z w
class By (P : Program) (t : TypeId) (bytes : outParam Nat) : Prop where
  info : (P.info? t).map (·.bytes) = some bytes
theorem info_of {P : Program} {t : TypeId} {u : TypeDesc} {s : Nat} {g : Bool} {z : Value} {bytes : Nat} [h1 : Ty P t u s g] [h2 : Zr P t z] [h3 : By P t bytes] :
    ∃ i, P.info? t = some i ∧ i.zero = some z ∧ i.size = s ∧ i.bytes = bytes := by
  cases hi : P.info? t with
  | none => have := h3.info; simp [hi] at this
  | some i =>
    have a1 := h1.siz default
    have a2 := h2.zero default
    have a3 := h3.info
    simp only [hi, Option.map_some, Option.some.injEq] at a3
    refine ⟨i, rfl, ?_, ?_, a3⟩
    · simp [zeroValue, typeInfo, hi] at a2
      cases hz : i.zero with
      | none => simp [hz, unsupported] at a2
      | some z' => simp [hz] at a2; simp [a2]
    · simpa [sizeOf, typeInfo, hi] using a1
class Fld (P : Program) (t : TypeId) (i : Nat) (off : outParam Nat) : Prop where
  run : ∀ w b o, (Instr.fieldAt t (.pointer (some ⟨b, o, none⟩)) i).run P w = .ok (.pointer (some ⟨b, o + off, none⟩)) w

def RdF (F : FH) (b o : Nat) (cs : List Value) : Prop := ∃ C e fr, F b = some (.cells C e fr) ∧ ∀ j v, cs[j]? = some v → C[o + j]? = some v
theorem RdF.mono {F F' : FH} {b o : Nat} {cs : List Value} (h : RdF F b o cs) (hl : Fle F F') : RdF F' b o cs := by
  obtain ⟨C, e, fr, h1, h2⟩ := h
  exact ⟨C, e, fr, hl _ _ h1, h2⟩

section runs
variable {P : Program} {w0 w : World} {F : FH} {M : OM}

theorem Sat.cellM (hs : Sat w0 F M w) {b : Nat} {C : Array Value} {e : TypeId} {fr : Nat × Nat} (hm : Has M (.blk b (.cells C e fr))) (o : Nat) : w.cell? ⟨b, o, none⟩ = C[o]? := by
  have : w.heap[b]? = some (.cells C e fr) := hs.own _ hm.mem
  simp only [World.cell?, this]; rfl
theorem Sat.cellF (hs : Sat w0 F M w) {b o : Nat} {cs : List Value} (hr : RdF F b o cs) (j : Nat) (v : Value) (hv : cs[j]? = some v) : w.cell? ⟨b, o + j, none⟩ = some v := by
  obtain ⟨C, e, fr, h1, h2⟩ := hr
  have := hs.fro _ _ h1
  simp only [World.cell?, this]; exact h2 j v hv

theorem add_plain (b o k : Nat) : (⟨b, o, none⟩ : Addr).add k = ⟨b, o + k, none⟩ := by
  unfold Addr.add
  split <;> simp_all

theorem run_loadCellsFrom (b o : Nat) : ∀ (cs : List Value) (i : Nat) (acc : Array Value), (∀ j v, cs[j]? = some v → w.cell? ⟨b, o + (i + j), none⟩ = some v) →
    (loadCellsFrom ⟨b, o, none⟩ i cs.length acc).run P w = .ok (acc ++ cs.toArray) w := by
  intro cs
  induction cs with
  | nil => intro i acc _; simp [loadCellsFrom]
  | cons c cs ih =>
    intro i acc h
    have h0 := h 0 c rfl
    simp only [Nat.add_zero] at h0
    have := ih (i + 1) (acc.push c) (fun j v hj => by
      have := h (j + 1) v (by simpa using hj)
      rw [show i + 1 + j = i + (j + 1) by omega]; exact this)
    simp only [List.length_cons, loadCellsFrom, add_plain, Sem.run_bind, run_load, h0, Result.andThen_ok, this]
    simp

theorem run_loadAt1 {t : TypeId} {u : TypeDesc} {s : Nat} [ht : Ty P t u s false] {b o : Nat} {v : Value} (hc : w.cell? ⟨b, o, none⟩ = some v) :
    (Instr.loadAt t (.pointer (some ⟨b, o, none⟩))).run P w = .ok v w := by
  simp [Instr.loadAt, Instr.sureAddr, loadVar, ht.agg, hc]
theorem run_loadAtA {t : TypeId} {u : TypeDesc} {s : Nat} [ht : Ty P t u s true] {b o : Nat} {cs : List Value} (hl : cs.length = s) (hc : ∀ j v, cs[j]? = some v → w.cell? ⟨b, o + j, none⟩ = some v) :
    (Instr.loadAt t (.pointer (some ⟨b, o, none⟩))).run P w = .ok (.agg cs.toArray) w := by
  have := run_loadCellsFrom (P := P) (w := w) b o cs 0 #[] (by simpa using hc)
  subst hl
  simp [Instr.loadAt, Instr.sureAddr, loadVar, ht.agg, ht.siz, loadCells, this]
end runs

section ops
variable {P : Program} {w0 : World} {n : Nat} {L : SL} {D : List Deferred} {F : FH} {M : OM} {Q : Exit → Act → World → Prop}
  {ops : Array Oper} {rest : List Oper} {ty : TypeId} {ps : String} {af : Array Edge} {d : Nat}

/-- An operation yields a value and leaves the world, wherever F and M are known. -/
def RunV (P : Program) (w0 : World) (n : Nat) (L : SL) (D : List Deferred) (F : FH) (M : OM) (op : Op) (ty : TypeId) (v : Value) : Prop :=
  ∀ a w, Fr L D n a → Sat w0 F M w → ∀ dst ps af gd, (execOp a.eval ⟨dst, op, ty, ps, af, gd⟩).run P w = .ok (.value v) w
/-- What one operation does to what is known. -/
def Stp (P : Program) (w0 : World) (n : Nat) (L : SL) (D : List Deferred) (F : FH) (M : OM) (o : Oper) (K : SL → FH → OM → Prop) : Prop :=
  ∀ a w, Fr L D n a → Sat w0 F M w → ∀ (KK : Act → World → Prop) (Q : Exit → Act → World → Prop),
    (∀ L' F' M', K L' F' M' → ∀ a' w', Fr L' D n a' → Sat w0 F' M' w' → KK a' w') → o.wp P a w KK Q
section stp
variable {K : SL → FH → OM → Prop}
theorem r_s {o : Oper} (hg : o.guard = none) (h : Stp P w0 n L D F M o fun L' F' M' => At w0 n (Wl P ops Q rest) L' D F' M') : At w0 n (Wl P ops Q (o :: rest)) L D F M := by
  intro a w hf hs
  exact wpList_plain hg fun KK hK => h a w hf hs KK Q fun L' F' M' hk a' w' hf' hs' => hK _ _ (hk a' w' hf' hs')
theorem s_v {op : Op} {v : Value} {gd : Option (Nat × Bool)} (hv : RunV P w0 n L D F M op ty v) (hlt : Nat.blt d n = true) (k : K ((d, v) :: L) F M) : Stp P w0 n L D F M ⟨some d, op, ty, ps, af, gd⟩ K := by
  intro a w hf hs KK Q hK
  unfold Oper.wp
  rw [hv a w hf hs, Oper.upon_value]
  exact hK _ _ _ k _ _ (hf.put (by simpa [Nat.blt_eq] using hlt) v) hs
theorem r_v {op : Op} {v : Value} (hv : RunV P w0 n L D F M op ty v) (hlt : Nat.blt d n = true) (k : At w0 n (Wl P ops Q rest) ((d, v) :: L) D F M) : At w0 n (Wl P ops Q (⟨some d, op, ty, ps, af, none⟩ :: rest)) L D F M :=
  r_s rfl (s_v hv hlt k)
/-- An operation that yields a value and changes memory. -/
theorem r_eff {op : Op} (hlt : Nat.blt d n = true)
    (k : ∀ a w, Fr L D n a → Sat w0 F M w → ∃ v w' F' M', (execOp a.eval ⟨some d, op, ty, ps, af, none⟩).run P w = .ok (.value v) w' ∧ Sat w0 F' M' w' ∧ K ((d, v) :: L) F' M') :
    Stp P w0 n L D F M ⟨some d, op, ty, ps, af, none⟩ K := by
  intro a w hf hs KK Q hK
  obtain ⟨v, w', F', M', hr, hs', hk⟩ := k a w hf hs
  unfold Oper.wp
  rw [hr, Oper.upon_value]
  exact hK _ _ _ hk _ _ (hf.put (by simpa [Nat.blt_eq] using hlt) v) hs'
/-- An operation without a value. -/
theorem r_do {op : Op} {F' : FH} {M' : OM} (hr : ∀ a w, Fr L D n a → Sat w0 F M w → ∃ w', (execOp a.eval ⟨none, op, ty, ps, af, none⟩).run P w = .ok .skip w' ∧ Sat w0 F' M' w')
    (k : K L F' M') : Stp P w0 n L D F M ⟨none, op, ty, ps, af, none⟩ K := by
  intro a w hf hs KK Q hK
  obtain ⟨w', hr, hs'⟩ := hr a w hf hs
  unfold Oper.wp
  rw [hr, Oper.upon_skip]
  exact hK _ _ _ k _ _ (hf.none undef) hs'

theorem v_move {x : Operand} {v : Value} (hx : ev L x = some v) :
    RunV P w0 n L D F M (.move x) ty (v) := fun a w hf _ _ _ _ _ => by simp [execOp, hf.eval hx]
theorem v_assign {x : Operand} {v : Value} (hx : ev L x = some v) :
    RunV P w0 n L D F M (.assign x) ty (v) := fun a w hf _ _ _ _ _ => by simp [execOp, hf.eval hx]
theorem v_pick {c x y : Operand} {t : Bool} {u v : Value} (hc : ev L c = some (.bool t)) (hx : ev L x = some u) (hy : ev L y = some v) :
    RunV P w0 n L D F M (.pick c x y) ty (if t then u else v) := fun a w hf _ _ _ _ _ => by simp [execOp, hf.eval hc, hf.eval hx, hf.eval hy, asBool]
theorem v_pickT {c x y : Operand} {u : Value} (hc : ev L c = some (.bool true)) (hx : ev L x = some u) :
    RunV P w0 n L D F M (.pick c x y) ty u := fun a w hf _ _ _ _ _ => by simp [execOp, hf.eval hc, hf.eval hx, asBool]
theorem v_pickF {c x y : Operand} {u : Value} (hc : ev L c = some (.bool false)) (hy : ev L y = some u) :
    RunV P w0 n L D F M (.pick c x y) ty u := fun a w hf _ _ _ _ _ => by simp [execOp, hf.eval hc, hf.eval hy, asBool]
theorem v_nilCheckP {x : Operand} {a : Addr} (hx : ev L x = some (.pointer (some a))) :
    RunV P w0 n L D F M (.nilCheck x) ty (.pointer (some a)) := fun a w hf _ _ _ _ _ => by simp [execOp, hf.eval hx]
theorem v_nilCheckF {x : Operand} {f : FuncId} {c1 c2 : Array Value} (hx : ev L x = some (.func (.func f) c1 c2)) :
    RunV P w0 n L D F M (.nilCheck x) ty (.func (.func f) c1 c2) := fun a w hf _ _ _ _ _ => by simp [execOp, hf.eval hx]
theorem v_fieldAddr {t : TypeId} {x : Operand} {i b o o' off : Nat} [hF : Fld P t i off] (hx : ev L x = some (.pointer (some ⟨b, o, none⟩))) (ho : o + off = o') :
    RunV P w0 n L D F M (.fieldAddr t x i) ty (.pointer (some ⟨b, o', none⟩)) := fun a w hf _ _ _ _ _ => by subst ho; simp [execOp, hf.eval hx, hF.run]

/-! loads -/
theorem v_load1M {t : TypeId} {u : TypeDesc} {s : Nat} [ht : Ty P t u s false] {x : Operand} {b o : Nat} {C : List Value} {e : TypeId} {fr : Nat × Nat} {v : Value} (hx : ev L x = some (.pointer (some ⟨b, o, none⟩)))
    (hm : Has M (.blk b (.cells ⟨C⟩ e fr))) (hc : C[o]? = some v) :
    RunV P w0 n L D F M (.load t x) ty (v) := fun a w hf hs _ _ _ _ => by
    have h1 : w.cell? ⟨b, o, none⟩ = some v := by rw [hs.cellM hm]; simpa using hc
    simp [execOp, hf.eval hx, run_loadAt1 h1]
def sub (C : List Value) (o s : Nat) : List Value := (C.drop o).take s
theorem v_loadAM {t : TypeId} {u : TypeDesc} {s : Nat} [ht : Ty P t u s true] {x : Operand} {b o : Nat} {C cs : List Value} {e : TypeId} {fr : Nat × Nat} (hx : ev L x = some (.pointer (some ⟨b, o, none⟩)))
    (hm : Has M (.blk b (.cells ⟨C⟩ e fr))) (hc : sub C o s = cs) (hl : cs.length = s) :
    RunV P w0 n L D F M (.load t x) ty (.agg ⟨cs⟩) := fun a w hf hs _ _ _ _ => by
    have h1 : ∀ j v, cs[j]? = some v → w.cell? ⟨b, o + j, none⟩ = some v := fun j v hj => by
      rw [hs.cellM hm]
      subst hc
      simp only [sub, List.getElem?_take, List.getElem?_drop] at hj
      split at hj
      · simpa using hj
      · cases hj
    simp [execOp, hf.eval hx, run_loadAtA hl h1]
theorem v_load1F {t : TypeId} {u : TypeDesc} {s : Nat} [ht : Ty P t u s false] {x : Operand} {b o : Nat} {o1 j : Nat} {cs : List Value} {v : Value} (hx : ev L x = some (.pointer (some ⟨b, o, none⟩)))
    (hm : RdF F b o1 cs) (ho : o = o1 + j) (hc : cs[j]? = some v) :
    RunV P w0 n L D F M (.load t x) ty (v) := fun a w hf hs _ _ _ _ => by
    subst ho
    have h1 := hs.cellF hm j v hc
    simp [execOp, hf.eval hx, run_loadAt1 h1]
theorem v_loadAF {t : TypeId} {u : TypeDesc} {s : Nat} [ht : Ty P t u s true] {x : Operand} {b o : Nat} {o1 k0 : Nat} {cs cs' : List Value} (hx : ev L x = some (.pointer (some ⟨b, o, none⟩)))
    (hm : RdF F b o1 cs) (ho : o = o1 + k0) (hc : sub cs k0 s = cs') (hl : cs'.length = s) :
    RunV P w0 n L D F M (.load t x) ty (.agg ⟨cs'⟩) := fun a w hf hs _ _ _ _ => by
    subst ho
    have h1 : ∀ j v, cs'[j]? = some v → w.cell? ⟨b, o1 + k0 + j, none⟩ = some v := fun j v hj => by
      subst hc
      simp only [sub, List.getElem?_take, List.getElem?_drop] at hj
      split at hj
      · rw [Nat.add_assoc]; exact hs.cellF hm _ v hj
      · cases hj
    simp [execOp, hf.eval hx, run_loadAtA hl h1]
/-! making memory -/
theorem s_alloc {t : TypeId} {z : Value} [hz : Zr P t z] {C : List Value} (hc : z.cells.toList = C) (hlt : Nat.blt d n = true)
    (k : ∀ b, K ((d, .pointer (some ⟨b, 0, none⟩)) :: L) F (.blk b (.cells ⟨C⟩ t (0, 0)) :: M)) :
    Stp P w0 n L D F M ⟨some d, .alloc t, ty, ps, af, none⟩ K :=
  r_eff hlt fun a w hf hs => ⟨_, _, F, _, by simp [execOp, Instr.alloc, hz.zero, newVar, newRow, newObj, Sem.run]; exact ⟨rfl, rfl⟩, by subst hc; exact hs.push _, k _⟩
theorem s_box {t : TypeId} {x : Operand} {v : Value} {C : List Value} (hx : ev L x = some v) (hc : v.cells.toList = C) (hlt : Nat.blt d n = true)
    (k : ∀ b, K ((d, .pointer (some ⟨b, 0, none⟩)) :: L) F (.blk b (.cells ⟨C⟩ t (0, 0)) :: M)) :
    Stp P w0 n L D F M ⟨some d, .box t x, ty, ps, af, none⟩ K :=
  r_eff hlt fun a w hf hs => ⟨_, _, F, _, by simp [execOp, hf.eval hx, Instr.box, newVar, newRow, newObj, Sem.run]; exact ⟨rfl, rfl⟩, by subst hc; exact hs.push _, k _⟩

theorem s_boxA {t : TypeId} {x : Operand} {C : List Value} (hx : ev L x = some (.agg ⟨C⟩)) (hlt : Nat.blt d n = true)
    (k : ∀ b, K ((d, .pointer (some ⟨b, 0, none⟩)) :: L) F (.blk b (.cells ⟨C⟩ t (0, 0)) :: M)) :
    Stp P w0 n L D F M ⟨some d, .box t x, ty, ps, af, none⟩ K := s_box hx rfl hlt k
theorem s_allocA {t : TypeId} {C : List Value} [hz : Zr P t (.agg ⟨C⟩)] (hlt : Nat.blt d n = true)
    (k : ∀ b, K ((d, .pointer (some ⟨b, 0, none⟩)) :: L) F (.blk b (.cells ⟨C⟩ t (0, 0)) :: M)) :
    Stp P w0 n L D F M ⟨some d, .alloc t, ty, ps, af, none⟩ K := s_alloc (z := .agg ⟨C⟩) (C := C) rfl hlt k

end stp

/-! guards -/
theorem r_guard_y {op : Op} {ds : Option Nat} {j dj : Nat} {b : Bool} (hj : (ops[j]?).bind (·.dst) = some dj) (hv : lk L dj = some (.bool b)) (k : At w0 n (Wl P ops Q (⟨ds, op, ty, ps, af, none⟩ :: rest)) L D F M) :
    At w0 n (Wl P ops Q (⟨ds, op, ty, ps, af, some (j, b)⟩ :: rest)) L D F M := by
  intro a w hf hs
  have h := k a w hf hs
  have hy : yielded ops a.tmps j = some b := by
    unfold yielded
    rw [hj]
    simp [hf.get dj _ hv]
  unfold Wl wpList at h ⊢
  simp only [Region.wanted, if_true] at h
  simp only [Region.wanted, hy, beq_self_eq_true, if_true]
  exact h
theorem r_guard_n {op : Op} {j dj : Nat} {b c : Bool} (hj : (ops[j]?).bind (·.dst) = some dj) (hv : lk L dj = some (.bool c)) (hne : (c == b) = false) (hlt : Nat.blt d n = true) (k : At w0 n (Wl P ops Q rest) ((d, undef) :: L) D F M) :
    At w0 n (Wl P ops Q (⟨some d, op, ty, ps, af, some (j, b)⟩ :: rest)) L D F M := by
  intro a w hf hs
  have hy : yielded ops a.tmps j = some c := by
    unfold yielded
    rw [hj]
    simp [hf.get dj _ hv]
  have hw : Region.wanted ⟨some d, op, ty, ps, af, some (j, b)⟩ (yielded ops a.tmps) = false := by
    simp only [Region.wanted, hy]
    cases b <;> cases c <;> simp_all
  unfold Wl wpList
  simp only [hw, Bool.false_eq_true, if_false]
  exact k _ _ (hf.put (by simpa [Nat.blt_eq] using hlt) undef) hs

section stp2
variable {K : SL → FH → OM → Prop}
/-! stores -/
def put (C : List Value) (o : Nat) (vs : List Value) : List Value := C.take o ++ vs ++ C.drop (o + vs.length)
theorem sat_setRow {w : World} {M' : OM} {b : Nat} {C C' : List Value} {e : TypeId} (hs : Sat w0 F M w) (hu : Upd M (.blk b (.cells ⟨C⟩ e (0, 0))) (.blk b (.cells ⟨C'⟩ e (0, 0))) M') : Sat w0 F M' (w.setRow b ⟨C'⟩) := by
  have hm : (Ch.blk b (.cells ⟨C⟩ e (0, 0))) ∈ M := by obtain ⟨l1, l2, rfl, _⟩ := hu.split; simp
  have hb : w.heap[b]? = some (.cells ⟨C⟩ e (0, 0)) := hs.own _ hm
  refine hs.upd hu rfl rfl rfl (by simp [World.setRow]) (fun k _ hk => setRow_other w b k _ (fun e => hk (by simp [Ch.foot, e]))) (setRow_heap w b _ _ e _ hb) (fun c hc => .inl hc) (by simp [Ch.foot])
theorem s_store {t : TypeId} {u : TypeDesc} {s : Nat} {g : Bool} [ht : Ty P t u s g] {x y : Operand} {b o : Nat} {C C' : List Value} {e : TypeId} {v : Value} {vs : List Value} {M' : OM} (hx : ev L x = some (.pointer (some ⟨b, o, none⟩))) (hy : ev L y = some v)
    (hv : v.cells.toList = vs) (hl : vs.length = s) (h1 : vs.all Value.oneCell' = true) (hm : Has M (.blk b (.cells ⟨C⟩ e (0, 0)))) (hfit : Nat.ble (o + s) C.length = true) (hC : put C o vs = C') (hu : Upd M (.blk b (.cells ⟨C⟩ e (0, 0))) (.blk b (.cells ⟨C'⟩ e (0, 0))) M')
    (k : K L F M') :
    Stp P w0 n L D F M ⟨none, .store t x y, ty, ps, af, none⟩ K :=
  r_do (fun a w hf hs => by
    have hb : w.heap[b]? = some (.cells ⟨C⟩ e (0, 0)) := hs.own _ hm.mem
    have hst := run_storeCells_at P b o e vs 0 ⟨C⟩ w hb (by have := Nat.le_of_ble_eq_true hfit; simp; omega) (by simpa [List.all_eq_true] using h1)
    refine ⟨_, ?_, sat_setRow hs hu⟩
    have hvs : v.cells.size = s := by rw [← Array.length_toList, hv, hl]
    simp only [Nat.add_zero] at hst
    subst hC
    simp only [execOp, hf.eval hx, hf.eval hy, Instr.storeAt, Instr.sureAddr, storeVar, Sem.run_bind, Sem.run_pure, Result.andThen_ok, ht.siz, hvs, hv, hst, put, ne_eq, not_true_eq_false, if_false]) k

/-! calls -/
class Cl (P : Program) (f : FuncId) : Prop where
  run : ∀ args w, (callFunc f args).run P w = .ok (.enter f args) w
def evs (L : SL) : List Operand → Option (List Value)
  | [] => some []
  | x :: xs => match ev L x, evs L xs with
    | some v, some vs => some (v :: vs)
    | _, _ => none
theorem Fr.evals {a : Act} (h : Fr L D n a) : ∀ {xs : List Operand} {vs : List Value}, evs L xs = some vs → xs.map a.eval = vs := by
  intro xs
  induction xs with
  | nil => intro vs hv; simp [evs] at hv; simp [hv]
  | cons x xs ih =>
    intro vs hv
    simp only [evs] at hv
    split at hv
    · rename_i v vs' h1 h2
      cases hv
      simp [h.eval h1, ih h2]
    · cases hv
theorem s_call {f : FuncId} [hcl : Cl P f] {xs : List Operand} {tys : Array TypeId} {vs : List Value} {R : Value → FH → OM → Prop} (hx : evs L xs = some vs) (hlt : Nat.blt d n = true) (h : Tri P f vs F M R)
    (k : ∀ v F' M', Fle F F' → R v F' M' → K ((d, v) :: L) F' M') :
    Stp P w0 n L D F M ⟨some d, .call ⟨.value (.func f), xs.toArray, tys⟩, ty, ps, af, none⟩ K := by
  intro a w hf hs KK Q hK
  unfold Oper.wp
  have hr : (execOp a.eval ⟨some d, .call ⟨.value (.func f), xs.toArray, tys⟩, ty, ps, af, none⟩).run P w = .ok (.enter f vs.toArray) w := by
    have := hf.evals hx
    simp [execOp, resolve, Act.eval, Deferred.ofValue, invoke, this, hcl.run]
  rw [hr, Oper.upon_enter]
  refine (h w0 w hs).mono fun e w' he => ?_
  obtain ⟨v, F', M', rfl, hl, hs', hR⟩ := he
  exact hK _ _ _ (k v F' M' hl hR) _ _ (hf.put (by simpa [Nat.blt_eq] using hlt) v) hs'
theorem s_call_ {f : FuncId} [hcl : Cl P f] {xs : List Operand} {tys : Array TypeId} {vs : List Value} {R : Value → FH → OM → Prop} (hx : evs L xs = some vs) (h : Tri P f vs F M R)
    (k : ∀ v F' M', Fle F F' → R v F' M' → K L F' M') :
    Stp P w0 n L D F M ⟨none, .call ⟨.value (.func f), xs.toArray, tys⟩, ty, ps, af, none⟩ K := by
  intro a w hf hs KK Q hK
  unfold Oper.wp
  have hr : (execOp a.eval ⟨none, .call ⟨.value (.func f), xs.toArray, tys⟩, ty, ps, af, none⟩).run P w = .ok (.enter f vs.toArray) w := by
    have := hf.evals hx
    simp [execOp, resolve, Act.eval, Deferred.ofValue, invoke, this, hcl.run]
  rw [hr, Oper.upon_enter]
  refine (h w0 w hs).mono fun e w' he => ?_
  obtain ⟨v, F', M', rfl, hl, hs', hR⟩ := he
  exact hK _ _ _ (k v F' M' hl hR) _ _ (hf.none v) hs'
/-- a function value that stands in a slot -/
theorem s_callv {f : FuncId} [hcl : Cl P f] {x : Operand} {xs : List Operand} {tys : Array TypeId} {vs c1 c2 : List Value} {R : Value → FH → OM → Prop} (hv : ev L x = some (.func (.func f) ⟨c1⟩ ⟨c2⟩)) (hx : evs L xs = some vs) (hlt : Nat.blt d n = true) (h : Tri P f (c1 ++ vs ++ c2) F M R)
    (k : ∀ v F' M', Fle F F' → R v F' M' → K ((d, v) :: L) F' M') :
    Stp P w0 n L D F M ⟨some d, .call ⟨.value x, xs.toArray, tys⟩, ty, ps, af, none⟩ K := by
  intro a w hf hs KK Q hK
  unfold Oper.wp
  have hr : (execOp a.eval ⟨some d, .call ⟨.value x, xs.toArray, tys⟩, ty, ps, af, none⟩).run P w = .ok (.enter f (c1 ++ vs ++ c2).toArray) w := by
    have := hf.evals hx
    simp [execOp, resolve, hf.eval hv, Deferred.ofValue, invoke, this, hcl.run]
  rw [hr, Oper.upon_enter]
  refine (h w0 w hs).mono fun e w' he => ?_
  obtain ⟨v, F', M', rfl, hl, hs', hR⟩ := he
  exact hK _ _ _ (k v F' M' hl hR) _ _ (hf.put (by simpa [Nat.blt_eq] using hlt) v) hs'

/-! numbers -/
theorem v_arith {op : BinOp} {t u : TypeId} {x y : Operand} {kk : IntKind} {i j : Int} {v : Value} (hx : ev L x = some (.int kk i)) (hy : ev L y = some (.int kk j))
    (hr : ∀ w, (Go.binOp op t (.int kk i) (.int kk j)).run P w = .ok v w) :
    RunV P w0 n L D F M (.binOp op t x y u) ty (v) := fun a w hf _ _ _ _ _ => by
    have hg : ∀ w, (eqGuard op t x y (.int kk i) (.int kk j)).run P w = .ok () w := fun w => by
      unfold eqGuard
      split <;> rfl
    simp [execOp, hf.eval hx, hf.eval hy, hg, hr]
theorem b_add {t : TypeId} {kk : IntKind} {i j c : Int} (h : kk.wrap (i + j) = c) (w : World) : (Go.binOp .add t (.int kk i) (.int kk j)).run P w = .ok (.int kk c) w := by subst h; simp [Go.binOp, Op.intArith]
theorem b_sub {t : TypeId} {kk : IntKind} {i j c : Int} (h : kk.wrap (i - j) = c) (w : World) : (Go.binOp .sub t (.int kk i) (.int kk j)).run P w = .ok (.int kk c) w := by subst h; simp [Go.binOp, Op.intArith]
theorem b_mul {t : TypeId} {kk : IntKind} {i j c : Int} (h : kk.wrap (i * j) = c) (w : World) : (Go.binOp .mul t (.int kk i) (.int kk j)).run P w = .ok (.int kk c) w := by subst h; simp [Go.binOp, Op.intArith]
theorem b_quo {t : TypeId} {kk : IntKind} {i j c : Int} (hj : j ≠ 0) (h : kk.wrap (i.tdiv j) = c) (w : World) : (Go.binOp .quo t (.int kk i) (.int kk j)).run P w = .ok (.int kk c) w := by subst h; simp [Go.binOp, Op.intDiv, hj]
theorem b_rem {t : TypeId} {kk : IntKind} {i j c : Int} (hj : j ≠ 0) (h : i.tmod j = c) (w : World) : (Go.binOp .rem t (.int kk i) (.int kk j)).run P w = .ok (.int kk c) w := by subst h; simp [Go.binOp, Op.intDiv, hj]
theorem b_eql {t : TypeId} {kk : IntKind} {i j : Int} (w : World) : (Go.binOp .eql t (.int kk i) (.int kk j)).run P w = .ok (.bool (i == j)) w := by simp [Go.binOp, Op.intCmp]
theorem b_neq {t : TypeId} {kk : IntKind} {i j : Int} (w : World) : (Go.binOp .neq t (.int kk i) (.int kk j)).run P w = .ok (.bool (i != j)) w := by simp [Go.binOp, Op.intCmp]
theorem b_lss {t : TypeId} {kk : IntKind} {i j : Int} (w : World) : (Go.binOp .lss t (.int kk i) (.int kk j)).run P w = .ok (.bool (decide (i < j))) w := by simp [Go.binOp, Op.intCmp]
theorem b_leq {t : TypeId} {kk : IntKind} {i j : Int} (w : World) : (Go.binOp .leq t (.int kk i) (.int kk j)).run P w = .ok (.bool (decide (i ≤ j))) w := by simp [Go.binOp, Op.intCmp]
theorem b_gtr {t : TypeId} {kk : IntKind} {i j : Int} (w : World) : (Go.binOp .gtr t (.int kk i) (.int kk j)).run P w = .ok (.bool (decide (j < i))) w := by simp [Go.binOp, Op.intCmp]
theorem b_geq {t : TypeId} {kk : IntKind} {i j : Int} (w : World) : (Go.binOp .geq t (.int kk i) (.int kk j)).run P w = .ok (.bool (decide (j ≤ i))) w := by simp [Go.binOp, Op.intCmp]
theorem b_lt {t : TypeId} {kk : IntKind} {i j : Int} (h : i < j) (w : World) : (Go.binOp .lss t (.int kk i) (.int kk j)).run P w = .ok (.bool true) w := by rw [b_lss]; simp [h]
theorem b_nlt {t : TypeId} {kk : IntKind} {i j : Int} (h : j ≤ i) (w : World) : (Go.binOp .lss t (.int kk i) (.int kk j)).run P w = .ok (.bool false) w := by rw [b_lss]; simp [h]
theorem b_le {t : TypeId} {kk : IntKind} {i j : Int} (h : i ≤ j) (w : World) : (Go.binOp .leq t (.int kk i) (.int kk j)).run P w = .ok (.bool true) w := by rw [b_leq]; simp [h]
theorem b_nle {t : TypeId} {kk : IntKind} {i j : Int} (h : j < i) (w : World) : (Go.binOp .leq t (.int kk i) (.int kk j)).run P w = .ok (.bool false) w := by rw [b_leq]; simp [h]
theorem b_gt {t : TypeId} {kk : IntKind} {i j : Int} (h : j < i) (w : World) : (Go.binOp .gtr t (.int kk i) (.int kk j)).run P w = .ok (.bool true) w := by rw [b_gtr]; simp [h]
theorem b_ngt {t : TypeId} {kk : IntKind} {i j : Int} (h : i ≤ j) (w : World) : (Go.binOp .gtr t (.int kk i) (.int kk j)).run P w = .ok (.bool false) w := by rw [b_gtr]; simp [h]
theorem b_ge {t : TypeId} {kk : IntKind} {i j : Int} (h : j ≤ i) (w : World) : (Go.binOp .geq t (.int kk i) (.int kk j)).run P w = .ok (.bool true) w := by rw [b_geq]; simp [h]
theorem b_nge {t : TypeId} {kk : IntKind} {i j : Int} (h : i < j) (w : World) : (Go.binOp .geq t (.int kk i) (.int kk j)).run P w = .ok (.bool false) w := by rw [b_geq]; simp [h]
theorem b_eq {t : TypeId} {kk : IntKind} {i j : Int} (h : i = j) (w : World) : (Go.binOp .eql t (.int kk i) (.int kk j)).run P w = .ok (.bool true) w := by rw [b_eql]; simp [h]
theorem b_neq' {t : TypeId} {kk : IntKind} {i j : Int} (h : i ≠ j) (w : World) : (Go.binOp .eql t (.int kk i) (.int kk j)).run P w = .ok (.bool false) w := by rw [b_eql]; simp [h]
theorem b_ne {t : TypeId} {kk : IntKind} {i j : Int} (h : i ≠ j) (w : World) : (Go.binOp .neq t (.int kk i) (.int kk j)).run P w = .ok (.bool true) w := by rw [b_neq]; simp [h]
theorem b_nne {t : TypeId} {kk : IntKind} {i j : Int} (h : i = j) (w : World) : (Go.binOp .neq t (.int kk i) (.int kk j)).run P w = .ok (.bool false) w := by rw [b_neq]; simp [h]
theorem cells_int (k : IntKind) (i : Int) : (Value.int k i).cells.toList = [.int k i] := rfl
theorem cells_bool (b : Bool) : (Value.bool b).cells.toList = [.bool b] := rfl
theorem cells_agg (C : List Value) : (Value.agg ⟨C⟩).cells.toList = C := rfl
theorem cells_ptr (A : Option Addr) : (Value.pointer A).cells.toList = [.pointer A] := rfl
theorem cells_slice (A : Option Addr) (m c : Nat) : (Value.slice A m c).cells.toList = [.slice A m c] := rfl
theorem cells_func (f : Fn) (a b : Array Value) : (Value.func f a b).cells.toList = [.func f a b] := rfl
theorem cells_str (x : ByteArray) : (Value.string x).cells.toList = [.string x] := rfl
theorem cells_map (x : Option Nat) : (Value.map x).cells.toList = [.map x] := rfl
theorem cells_iface (t : TypeId) (v : Value) : (Value.iface t v).cells.toList = [.iface t v] := rfl
theorem cells_nilI : Value.nilIface.cells.toList = [.nilIface] := rfl
theorem cells_nilF : Value.nilFunc.cells.toList = [.nilFunc] := rfl
theorem wr64 {i : Int} (h : -9223372036854775808 ≤ i ∧ i ≤ 9223372036854775807) : IntKind.i64.wrap i = i := by
  unfold IntKind.wrap
  simp only [IntKind.bits, IntKind.signed]
  simp
  omega
theorem v_not {t : TypeId} {x : Operand} {p : Bool} (hx : ev L x = some (.bool p)) :
    RunV P w0 n L D F M (.unOp .not t x) ty (.bool (!p)) := fun a w hf _ _ _ _ _ => by simp [execOp, hf.eval hx, Op.unary]
theorem v_conv {s t : TypeId} {x : Operand} {k1 k2 : IntKind} {us ut : TypeDesc} {s1 s2 : Nat} {g1 g2 : Bool} [h1 : Ty P s us s1 g1] [h2 : Ty P t ut s2 g2] {i c : Int} (hx : ev L x = some (.int k1 i)) (hu : ut = .int k2) (hw : k2.wrap i = c) :
    RunV P w0 n L D F M (.convert s t x) ty (.int k2 c) := fun a w hf _ _ _ _ _ => by
    subst hu hw
    simp [execOp, hf.eval hx, convert, run_underlying h1.und, run_underlying h2.und, Conv.intToInt]
theorem r_done {fn : Func} {F0 : FH} {v : Value} {R : Value → FH → OM → Prop} (hr : ∀ a w, Fr L [] n a → Sat w0 F M w → (results fn a.tmps).run P w = .ok v w) (hF : Fle F0 F) (h : R v F M) : At w0 n (Rt (Done P w0 fn F0 R)) L [] F M := by
  intro a w hf hs
  exact ⟨hf.defers, v, hr a w hf hs, v, F, M, rfl, hF, hs, h⟩

/-! slices whose rows are owned -/
theorem v_lenV {x : Operand} {A : Option Addr} {m c : Nat} {t : TypeId} {e s : Nat} {g : Bool} [ht : Ty P t (.slice e) s g] (hx : ev L x = some (.slice A m c)) :
    RunV P w0 n L D F M (.call ⟨.builtin .len, #[x], #[t]⟩) ty (.int .i64 m) := fun a w hf _ _ _ _ _ => by simp [execOp, resolve, invoke, builtin, hf.eval hx, Builtin.len_, run_underlying ht.und, goInt]
theorem own_form {w : World} {A : Option Addr} {m c : Nat} {e : TypeId} {sz : Nat} {xs : List Value} (h : (Ch.row A m c e sz xs).ok w) (hm : 0 < m) :
    ∃ g C, A = some ⟨g, 0, none⟩ ∧ w.heap[g]? = some (.cells C e (0, 0)) ∧ m ≤ c ∧ c ≤ maxLen ∧ C.size = c * sz ∧ C.toList.take (m * sz) = xs := by
  rcases h.2 with ⟨h1, h2⟩ | ⟨g, cap, C, h1, _, hg, h3, h4, h5, h6⟩
  · omega
  · cases h1
    exact ⟨g, C, rfl, hg, h3, h4, h5, h6⟩
/-- The address of a row that is owned and not empty. -/
theorem At.rowForm {K : Act → World → Prop} {A : Option Addr} {m c : Nat} {e : TypeId} {sz : Nat} {xs : List Value} (hm : Has M (.row A m c e sz xs)) (hp : 0 < m)
    (k : ∀ g, A = some ⟨g, 0, none⟩ → xs.length = m * sz → At w0 n K L D F M) : At w0 n K L D F M := by
  intro a w hf hs
  obtain ⟨g, C, h1, _⟩ := own_form (hs.own _ hm.mem) hp
  exact k g h1 (hs.own _ hm.mem).1 a w hf hs
theorem At.rowLen {K : Act → World → Prop} {A : Option Addr} {m c : Nat} {e : TypeId} {sz : Nat} {xs : List Value} (hm : Has M (.row A m c e sz xs))
    (k : xs.length = m * sz → m ≤ c ∧ c ≤ maxLen → At w0 n K L D F M) : At w0 n K L D F M := by
  intro a w hf hs
  refine k (hs.own _ hm.mem).1 ?_ a w hf hs
  rcases (hs.own _ hm.mem).2 with ⟨h1, h2⟩ | ⟨g, cap, C, h1, _, hg, h3, h4, _⟩
  · cases h1; exact ⟨Nat.le_refl _, Nat.zero_le _⟩
  · cases h1; exact ⟨h3, h4⟩
theorem v_indexAddr {x y : Operand} {b o o' : Nat} {m c : Nat} {kk : IntKind} {i : Int} {t e s s2 : Nat} {u : TypeDesc} {g g2 : Bool} [ht : Ty P t (.slice e) s g] [he : Ty P e u s2 g2] (hx : ev L x = some (.slice (some ⟨b, o, none⟩) m c)) (hy : ev L y = some (.int kk i))
    (h0 : 0 ≤ i) (h1 : i < m) (ho : o + i.toNat * s2 = o') :
    RunV P w0 n L D F M (.indexAddr t x y) ty (.pointer (some ⟨b, o', none⟩)) := fun a w hf _ _ _ _ _ => by
  subst ho
  simp [execOp, hf.eval hx, hf.eval hy, Instr.indexAt, asIntOf, run_underlying ht.und, he.siz, h0, h1, add_plain]
theorem Sat.cellR {w : World} (hs : Sat w0 F M w) {g m c : Nat} {e : TypeId} {sz : Nat} {xs : List Value} (hm : Has M (.row (some ⟨g, 0, none⟩) m c e sz xs)) (o : Nat) (v : Value) (hv : xs[o]? = some v) : w.cell? ⟨g, o, none⟩ = some v := by
  have h : (Ch.row (some ⟨g, 0, none⟩) m c e sz xs).ok w := hs.own _ hm.mem
  rcases h.2 with ⟨h1, _⟩ | ⟨g', cap, C, h1, _, hg, _, _, _, h6⟩
  · cases h1
  · cases h1
    simp only [World.cell?, hg]
    rw [← h6, List.getElem?_take] at hv
    split at hv
    · simpa using hv
    · cases hv
theorem v_load1R {t : TypeId} {u : TypeDesc} {s : Nat} [ht : Ty P t u s false] {x : Operand} {g o : Nat} {m c : Nat} {e : TypeId} {sz : Nat} {xs : List Value} {v : Value} (hx : ev L x = some (.pointer (some ⟨g, o, none⟩)))
    (hm : Has M (.row (some ⟨g, 0, none⟩) m c e sz xs)) (hc : xs[o]? = some v) :
    RunV P w0 n L D F M (.load t x) ty (v) := fun a w hf hs _ _ _ _ => by
    have h1 := hs.cellR hm o v hc
    simp [execOp, hf.eval hx, run_loadAt1 h1]
theorem v_loadAR {t : TypeId} {u : TypeDesc} {s : Nat} [ht : Ty P t u s true] {x : Operand} {g o : Nat} {m c : Nat} {e : TypeId} {sz : Nat} {xs cs : List Value} (hx : ev L x = some (.pointer (some ⟨g, o, none⟩)))
    (hm : Has M (.row (some ⟨g, 0, none⟩) m c e sz xs)) (hc : sub xs o s = cs) (hl : cs.length = s) :
    RunV P w0 n L D F M (.load t x) ty (.agg ⟨cs⟩) := fun a w hf hs _ _ _ _ => by
    have h1 : ∀ j v, cs[j]? = some v → w.cell? ⟨g, o + j, none⟩ = some v := fun j v hj => by
      refine hs.cellR hm _ v ?_
      subst hc
      simp only [sub, List.getElem?_take, List.getElem?_drop] at hj
      split at hj
      · exact hj
      · cases hj
    simp [execOp, hf.eval hx, run_loadAtA hl h1]
theorem take_put (C xs vs : List Value) (k o : Nat) (h : C.take k = xs) (hk : k ≤ C.length) (ho : o + vs.length ≤ k) : (put C o vs).take k = put xs o vs := by
  subst h
  unfold put
  have e1 : (C.take o ++ vs ++ C.drop (o + vs.length)).take k = C.take o ++ vs ++ (C.drop (o + vs.length)).take (k - (o + vs.length)) := by
    rw [List.take_append, List.take_of_length_le (by simp; omega)]
    congr 2
    simp
    omega
  rw [e1, List.take_take, Nat.min_eq_left (by omega), List.drop_take]
/-- A store into a row that is owned. -/
theorem s_storeR {t : TypeId} {u : TypeDesc} {s : Nat} {gg : Bool} [ht : Ty P t u s gg] {x y : Operand} {g o : Nat} {m c : Nat} {e : TypeId} {sz : Nat} {xs xs' : List Value} {v : Value} {vs : List Value} {M' : OM} (hx : ev L x = some (.pointer (some ⟨g, o, none⟩))) (hy : ev L y = some v)
    (hv : v.cells.toList = vs) (hl : vs.length = s) (h1 : vs.all Value.oneCell' = true) (hm : Has M (.row (some ⟨g, 0, none⟩) m c e sz xs)) (hfit : o + s ≤ xs.length) (hC : put xs o vs = xs')
    (hu : Upd M (.row (some ⟨g, 0, none⟩) m c e sz xs) (.row (some ⟨g, 0, none⟩) m c e sz xs') M') (k : K L F M') :
    Stp P w0 n L D F M ⟨none, .store t x y, ty, ps, af, none⟩ K :=
  r_do (fun a w hf hs => by
    have h : (Ch.row (some ⟨g, 0, none⟩) m c e sz xs).ok w := hs.own _ hm.mem
    obtain ⟨hlen, h⟩ := h
    rcases h with ⟨h1', _⟩ | ⟨g', cap, C, h1', hb0, hg, h3, h4, h5, h6⟩
    · cases h1'
    · cases h1'
      have hle : xs.length ≤ C.size := by rw [← h6]; simp; omega
      have hst := run_storeCells_at P g o e vs 0 C w hg (by omega) (by simpa [List.all_eq_true] using h1)
      have hvs : v.cells.size = s := by rw [← Array.length_toList, hv, hl]
      simp only [Nat.add_zero] at hst
      refine ⟨w.setRow g (C.toList.take o ++ vs ++ C.toList.drop (o + vs.length)).toArray, by simp only [execOp, hf.eval hx, hf.eval hy, Instr.storeAt, Instr.sureAddr, storeVar, Sem.run_bind, Sem.run_pure, Result.andThen_ok, ht.siz, hvs, hv, hst, ne_eq, not_true_eq_false, if_false], ?_⟩
      refine hs.upd hu rfl rfl rfl (by simp [World.setRow]) (fun k _ hk => setRow_other w g k _ (fun e => hk (by simp [Ch.foot, Value.ownBlock, e]))) ?_ (fun b hb => .inl hb) (by simp [Ch.foot, Value.ownBlock])
      have hmc : m * sz ≤ C.toList.length := by rw [Array.length_toList, h5]; exact Nat.mul_le_mul_right _ h3
      have hpl : (put xs o vs).length = xs.length := by simp [put]; omega
      refine ⟨by rw [← hC, hpl]; exact hlen, .inr ⟨g, c, _, rfl, Nat.zero_le _, setRow_heap w g C _ e _ hg, h3, h4, ?_, ?_⟩⟩
      · simp only [List.size_toArray, List.length_append, List.length_take, List.length_drop, Array.length_toList]
        omega
      · rw [← hC]
        exact take_put C.toList xs vs (m * sz) o h6 hmc (by omega)) k

/-! append onto a row that is owned (or nil) -/
theorem s_append {s x : Operand} {t e : TypeId} {st se : Nat} {gt ge : Bool} {ue : TypeDesc} {z : Value} {bytes : Nat} [ht : Ty P t (.slice e) st gt] [he : Ty P e ue se ge] [hz : Zr P e z] [hy : By P e bytes]
    {A : Option Addr} {m c : Nat} {xs ys : List Value} {B : Option Addr} {m2 c2 : Nat} {M1 : OM} (hs : ev L s = some (.slice A m c)) (hx : ev L x = some (.slice B m2 c2)) (hzc : z.cells.size = se) (hse : Nat.blt 0 se = true)
    (hd : Del M (.row A m c e se xs) M1)
    (hsrc : ∀ w, Sat w0 F M w → ys.length = m2 * se ∧ (0 < m2 → ∃ ad, B = some ad ∧ ∀ j u, ys[j]? = some u → w.cell? (ad.add j) = some u) ∧ (B = none → m2 = 0)) (h1 : ys.all Value.oneCell' = true)
    (hb : (m + m2) * bytes ≤ 140737488355328) (hml : m + m2 ≤ maxLen) (hlt : Nat.blt d n = true)
    (k : ∀ A' c', K ((d, .slice A' (m + m2) c') :: L) F (.row A' (m + m2) c' e se (xs ++ ys) :: M1)) :
    Stp P w0 n L D F M ⟨some d, .call ⟨.builtin .append, #[s, x], #[t, t]⟩, ty, ps, af, none⟩ K := by
  refine r_eff hlt fun a w hf hS => ?_
  obtain ⟨l1, l2, hM, hM1⟩ := hd.split
  have hown : (Ch.row A m c e se xs).ok w := hS.own _ (by subst hM; simp)
  obtain ⟨i0, hi, hz0, hz1, hz2⟩ := info_of (P := P) (t := e)
  obtain ⟨hyl, hys, hBn⟩ := hsrc w hS
  have hrun : ∃ v' w', (Builtin.append_ #[t, t] ty #[.slice A m c, .slice B m2 c2]).run P w = .ok v' w' ∧ w'.ownsRow 0 e se v' (m + m2) (xs ++ ys) ∧ w.grownBy w' (Value.slice A m c).ownBlock ∧ (v'.ownBlock = (Value.slice A m c).ownBlock ∨ v'.ownBlock = some w.heap.size) := by
    rcases B with _ | ad
    · have hm0 : m2 = 0 := hBn rfl
      subst hm0
      obtain rfl : ys = [] := List.eq_nil_of_length_eq_zero (by simpa using hyl)
      have hown' : w.ownsRow 0 e se (.slice A m c) m xs := hown
      refine ⟨.slice A m c, w, ?_, by simpa using hown', World.grownBy.refl w _, .inl rfl⟩
      have hmc : m ≤ c := by
        rcases hown.2 with ⟨h1, h2⟩ | ⟨g, cap, C, h1, _, _, h3, _⟩
        · omega
        · cases h1; exact h3
      cases A <;> simp [Builtin.append_, run_underlying ht.und, sizeOf, typeInfo, hi, Builtin.lenOf, Builtin.firstCells, hmc, storeCells]
    · obtain ⟨v', w', hr, h2, h3, _, h5⟩ := run_append_own_at (P := P) w 0 t ty e i0 z se bytes ht.und hi hz0 hz1 hz2 hzc (by simpa [Nat.blt_eq] using hse) (.slice A m c) m xs hown ad m2 c2 ys hyl
        (fun j u hj => by
          have hp : 0 < m2 := by
            rcases Nat.eq_zero_or_pos m2 with h | h
            · subst h
              have : ys = [] := List.eq_nil_of_length_eq_zero (by simpa using hyl)
              subst this; cases hj
            · exact h
          obtain ⟨ad', e1, h⟩ := hys hp
          cases e1
          exact h j u hj) (by simpa [List.all_eq_true] using h1) hml hb (Nat.zero_le _)
      exact ⟨v', w', hr, h2, h3, h5⟩
  obtain ⟨v', w', hr, h2, h3, h5⟩ := hrun
  obtain ⟨A', c', rfl⟩ : ∃ A' c', v' = .slice A' (m + m2) c' := by
    rcases h2.2 with ⟨e1, e2⟩ | ⟨g, cap, C, e1, _⟩
    · exact ⟨none, 0, by rw [e1, e2]⟩
    · exact ⟨_, _, e1⟩
  have hupd : Upd M (.row A m c e se xs) (.row A' (m + m2) c' e se (xs ++ ys)) (l1 ++ .row A' (m + m2) c' e se (xs ++ ys) :: l2) := by
    rw [hM]
    exact Upd.mid _ _ _ _
  have hnew : Sat w0 F (l1 ++ .row A' (m + m2) c' e se (xs ++ ys) :: l2) w' := by
    refine hS.upd hupd h3.os h3.tape h3.output h3.size (fun k hk hnk => h3.block k hk ?_) h2 ?_ ?_
    · intro e1
      exact hnk (by simp only [Ch.foot, Option.mem_toList]; exact e1.symm)
    · intro b hb
      simp only [Ch.foot, Option.mem_toList] at hb ⊢
      rcases h5 with h | h
      · exact .inl (by rw [← h]; exact hb)
      · rw [h] at hb; cases hb; exact .inr (Nat.le_refl _)
    · cases h : (Value.slice A' (m + m2) c').ownBlock <;> simp [Ch.foot, h]
  refine ⟨.slice A' (m + m2) c', w', F, .row A' (m + m2) c' e se (xs ++ ys) :: M1, by simp [execOp, resolve, invoke, builtin, hf.eval hs, hf.eval hx, hr], ?_, k _ _⟩
  subst hM1
  exact hnew.front

/-! values built of parts -/
class Bd (P : Program) (t : TypeId) (Z : outParam (List Value)) (pl : outParam (List (Nat × Nat))) : Prop where
  run : ∀ w parts C, Instr.fill (fun i => pl[i]?) ⟨Z⟩ parts = some C → (Instr.build t parts.toArray).run P w = .ok (.agg C) w
theorem foldl_set : ∀ (vs : List Value) (k : Nat) (C : List Value) (o : Nat), o + k + vs.length ≤ C.length →
    ((vs.zipIdx k).foldl (fun (cs : Array Value) (x : Value × Nat) => cs.setIfInBounds (o + x.2) x.1) ⟨C⟩).toList = C.take (o + k) ++ vs ++ C.drop (o + k + vs.length)
  | [], k, C, o, h => by simp
  | v :: vs, k, C, o, h => by
    simp only [List.zipIdx_cons, List.foldl_cons]
    have hset : ((⟨C⟩ : Array Value).setIfInBounds (o + k) v) = ⟨C.set (o + k) v⟩ := by
      apply Array.ext'
      simp
    rw [hset, foldl_set vs (k + 1) (C.set (o + k) v) o (by simp at h ⊢; omega)]
    have e := list_seg_step C (o + k) v vs (by simpa [Nat.add_assoc] using h)
    simpa [Nat.add_assoc] using e
/-- the cells of a struct: its zero, the parts put over it -/
def puts (pl : List (Nat × Nat)) (C : List Value) : List (Nat × Value) → Option (List Value)
  | [] => some C
  | (i, v) :: rest =>
    match pl[i]? with
    | none => none
    | some (o, s) => bif Nat.beq v.cells.toList.length s && Nat.ble (o + s) C.length then puts pl (put C o v.cells.toList) rest else none
theorem fill_of_puts (pl : List (Nat × Nat)) : ∀ (parts : List (Nat × Value)) (C R : List Value), puts pl C parts = some R → Instr.fill (fun i => pl[i]?) ⟨C⟩ parts = some ⟨R⟩
  | [], C, R, h => by simp only [puts, Option.some.injEq] at h; subst h; rfl
  | (i, v) :: rest, C, R, h => by
    simp only [puts] at h
    unfold Instr.fill
    cases hp : pl[i]? with
    | none => simp [hp] at h
    | some x =>
      obtain ⟨o, s⟩ := x
      simp only [hp] at h ⊢
      cases hb : Nat.beq v.cells.toList.length s && Nat.ble (o + s) C.length with
      | false => rw [hb] at h; cases h
      | true =>
        rw [hb] at h
        simp only [cond_true] at h
        simp only [Bool.and_eq_true, Nat.ble_eq] at hb
        have e1 : v.cells.size = s := by have := Nat.eq_of_beq_eq_true hb.1; simpa using this
        have hl : v.cells.toList.length = s := by simpa using e1
        rw [if_neg (by simp [e1]; exact hb.2)]
        have := foldl_set v.cells.toList 0 C o (by simp at hb ⊢; omega)
        simp only [Nat.add_zero] at this
        have e2 : (v.cells.zipIdx.foldl (fun (cs : Array Value) (x : Value × Nat) => cs.setIfInBounds (o + x.2) x.1) ⟨C⟩) = ⟨put C o v.cells.toList⟩ := by
          apply Array.ext'
          rw [← Array.foldl_toList, Array.toList_zipIdx]
          simpa [put] using this
        have e3 : (v.cells.zipIdx.foldl (fun cs (c, j) => cs.setIfInBounds (o + j) c) (⟨C⟩ : Array Value)) = ⟨put C o v.cells.toList⟩ := e2
        rw [e3]
        exact fill_of_puts pl rest _ R h
def evps (L : SL) : List (Nat × Operand) → Option (List (Nat × Value))
  | [] => some []
  | (i, x) :: xs => match ev L x, evps L xs with
    | some v, some vs => some ((i, v) :: vs)
    | _, _ => none
theorem Fr.evalps {a : Act} (h : Fr L D n a) : ∀ {xs : List (Nat × Operand)} {vs : List (Nat × Value)}, evps L xs = some vs → xs.map (fun p => (p.1, a.eval p.2)) = vs := by
  intro xs
  induction xs with
  | nil => intro vs hv; simp [evps] at hv; simp [hv]
  | cons x xs ih =>
    intro vs hv
    obtain ⟨i, x⟩ := x
    simp only [evps] at hv
    split at hv
    · rename_i v vs' h1 h2
      cases hv
      simp [h.eval h1, ih h2]
    · cases hv
theorem v_build0 {t : TypeId} {Z : List Value} {pl : List (Nat × Nat)} [hB : Bd P t Z pl] {xs : List (Nat × Operand)} {vs : List (Nat × Value)} {C : List Value} (hx : evps L xs = some vs) (hC : puts pl Z vs = some C) :
    RunV P w0 n L D F M (.build t xs.toArray) ty (.agg ⟨C⟩) := fun a w hf _ _ _ _ _ => by
    have h1 := hf.evalps hx
    have h2 := hB.run w vs ⟨C⟩ (fill_of_puts pl vs Z C hC)
    have h3 : (xs.toArray.map fun (i, x) => (i, a.eval x)) = vs.toArray := by rw [← h1]; simp
    simp only [execOp, h3, Sem.run_bind, h2, Result.andThen_ok, Sem.run_pure]
theorem v_build {t : TypeId} {Z : List Value} {pl : List (Nat × Nat)} [hB : Bd P t Z pl] {xs : List (Nat × Operand)} {vs : List (Nat × Value)} {C0 C : List Value} (hx : evps L xs = some vs) (hC : puts pl Z vs = some C0) (hn : C0 = C) :
    RunV P w0 n L D F M (.build t xs.toArray) ty (.agg ⟨C⟩) := by subst hn; exact v_build0 hx hC
/-- the places of a slice's elements -/
def rowPl (s : Nat) (i : Nat) : Option (Nat × Nat) := some (i * s, s)
def putsR (s : Nat) (C : List Value) : List (Nat × Value) → Option (List Value)
  | [] => some C
  | (i, v) :: rest => bif Nat.beq v.cells.toList.length s && Nat.ble (i * s + s) C.length then putsR s (put C (i * s) v.cells.toList) rest else none
theorem fill_of_putsR (s : Nat) : ∀ (parts : List (Nat × Value)) (C R : List Value), putsR s C parts = some R → Instr.fill (fun i => some (i * s, s)) ⟨C⟩ parts = some ⟨R⟩
  | [], C, R, h => by simp only [putsR, Option.some.injEq] at h; subst h; rfl
  | (i, v) :: rest, C, R, h => by
    simp only [putsR] at h
    unfold Instr.fill
    simp only
    cases hb : Nat.beq v.cells.toList.length s && Nat.ble (i * s + s) C.length with
    | false => rw [hb] at h; cases h
    | true =>
      rw [hb] at h
      simp only [cond_true] at h
      simp only [Bool.and_eq_true, Nat.ble_eq] at hb
      have e1 : v.cells.size = s := by have := Nat.eq_of_beq_eq_true hb.1; simpa using this
      have hl : v.cells.toList.length = s := by simpa using e1
      rw [if_neg (by simp [e1]; exact hb.2)]
      have := foldl_set v.cells.toList 0 C (i * s) (by simp at hb ⊢; omega)
      simp only [Nat.add_zero] at this
      have e2 : (v.cells.zipIdx.foldl (fun (cs : Array Value) (x : Value × Nat) => cs.setIfInBounds (i * s + x.2) x.1) ⟨C⟩) = ⟨put C (i * s) v.cells.toList⟩ := by
        apply Array.ext'
        rw [← Array.foldl_toList, Array.toList_zipIdx]
        simpa [put] using this
      have e3 : (v.cells.zipIdx.foldl (fun cs (c, j) => cs.setIfInBounds (i * s + j) c) (⟨C⟩ : Array Value)) = ⟨put C (i * s) v.cells.toList⟩ := e2
      rw [e3]
      exact fill_of_putsR s rest _ R h
theorem putsR_length (s : Nat) : ∀ (parts : List (Nat × Value)) (C R : List Value), putsR s C parts = some R → R.length = C.length
  | [], C, R, h => by simp only [putsR, Option.some.injEq] at h; rw [h]
  | (i, v) :: rest, C, R, h => by
    simp only [putsR] at h
    cases hb : Nat.beq v.cells.toList.length s && Nat.ble (i * s + s) C.length with
    | false => rw [hb] at h; cases h
    | true =>
      rw [hb] at h
      simp only [cond_true] at h
      have := putsR_length s rest _ R h
      simp only [Bool.and_eq_true, Nat.ble_eq] at hb
      have e1 := Nat.eq_of_beq_eq_true hb.1
      rw [this]
      simp [put]
      simp at e1
      omega
def reps (Z : List Value) : Nat → List Value
  | 0 => []
  | k + 1 => Z ++ reps Z k
theorem length_reps (Z : List Value) : ∀ k, (reps Z k).length = k * Z.length
  | 0 => by simp [reps]
  | k + 1 => by simp [reps, length_reps Z k, Nat.succ_mul]; omega
theorem range_reps (Z : List Value) : ∀ m, ((Array.range (m * Z.length)).map fun i => (⟨Z⟩ : Array Value)[i % Z.length]!) = ⟨reps Z m⟩ := by
  intro m
  apply Array.ext'
  simp only [Array.toList_map, Array.toList_range]
  apply List.ext_getElem?
  intro j
  have hrep : ∀ m j, j < m * Z.length → (reps Z m)[j]? = Z[j % Z.length]? := by
    intro m
    induction m with
    | zero => intro j h; omega
    | succ m ih =>
      intro j h
      simp only [reps]
      rcases Nat.lt_or_ge j Z.length with h1 | h1
      · rw [List.getElem?_append_left h1, Nat.mod_eq_of_lt h1]
      · rw [List.getElem?_append_right h1, ih (j - Z.length) (by rw [Nat.succ_mul] at h; omega), Nat.mod_eq_sub_mod h1]
  rcases Nat.lt_or_ge j (m * Z.length) with h | h
  · have hz : 0 < Z.length := by
      rcases Nat.eq_zero_or_pos Z.length with h0 | h0
      · rw [h0] at h; omega
      · exact h0
    have hmod := Nat.mod_lt j hz
    rw [hrep m j h]
    simp [h, hmod]
  · rw [List.getElem?_eq_none (show (reps Z m).length ≤ j by rw [length_reps]; exact h), List.getElem?_eq_none (by simpa using h)]
theorem s_buildSlice0 {t e : TypeId} {st s : Nat} {gt ge : Bool} {ue : TypeDesc} {z : Value} [ht : Ty P t (.slice e) st gt] [he : Ty P e ue s ge] [hz : Zr P e z] {m : Nat} {xs : List (Nat × Operand)} {vs : List (Nat × Value)} {R : List Value}
    (hx : evps L xs = some vs) (hzl : Nat.beq z.cells.toList.length s = true) (hC : putsR s (reps z.cells.toList m) vs = some R) (hsm : Nat.ble (m * s) 16777216 = true) (hsm2 : Nat.ble m 16777216 = true) (hlt : Nat.blt d n = true)
    (k : ∀ b, K ((d, .slice (some ⟨b, 0, none⟩) m m) :: L) F (.row (some ⟨b, 0, none⟩) m m e s R :: M)) :
    Stp P w0 n L D F M ⟨some d, .buildSlice t m xs.toArray, ty, ps, af, none⟩ K :=
  r_eff hlt fun a w hf hs => by
    have h1 := hf.evalps hx
    have h3 : (xs.toArray.map fun (i, x) => (i, a.eval x)) = vs.toArray := by rw [← h1]; simp
    have hzl' : z.cells.toList.length = s := Nat.eq_of_beq_eq_true hzl
    have hf2 := fill_of_putsR s vs _ _ hC
    have hsm' : m * s ≤ 16777216 := Nat.le_of_ble_eq_true hsm
    have hlen : R.length = m * s := by rw [putsR_length s vs _ _ hC, length_reps, hzl']
    have hrow : ∀ Z : Array Value, Z.toList = z.cells.toList ∨ m * s = 0 → ((Array.range (m * s)).map (Z[· % Z.size]!)) = ⟨reps z.cells.toList m⟩ := by
      intro Z hZ
      rcases hZ with hZ | hZ
      · have hZ' : Z = ⟨z.cells.toList⟩ := Array.ext' hZ
        subst hZ'
        have := range_reps z.cells.toList m
        rw [hzl'] at this
        have e : (⟨z.cells.toList⟩ : Array Value).size = s := by simpa using hzl'
        rw [e]
        exact this
      · apply Array.ext'
        have : reps z.cells.toList m = [] := List.eq_nil_of_length_eq_zero (by rw [length_reps, hzl', hZ])
        simp [hZ, this]
    refine ⟨_, w.alloc (.cells ⟨R⟩ e), F, _, ?_, ?_, k w.heap.size⟩
    · simp only [execOp, h3, Instr.buildSlice, Sem.run_bind, run_underlying ht.und, Result.andThen_ok, he.siz]
      rw [if_neg (by omega)]
      by_cases h0 : m * s = 0
      · simp only [h0, if_true, Sem.run_bind, Sem.run_pure, Result.andThen_ok]
        have := hrow #[] (.inr h0)
        rw [h0] at this
        simp only [this, hf2]
        simp [newRow, newObj, Sem.run]
      · simp only [h0, if_false, Sem.run_bind, Sem.run_pure, hz.zero, Result.andThen_ok]
        simp only [hrow z.cells (.inl rfl), hf2]
        simp [newRow, newObj, Sem.run]
    · have hp := hs.push (.cells ⟨R⟩ e)
      refine hp.upd .head rfl rfl rfl (Nat.le_refl _) (fun _ _ _ => rfl) ?_ (fun b hb => .inl (by simpa [Ch.foot, Value.ownBlock] using hb)) (by simp [Ch.foot, Value.ownBlock])
      refine ⟨hlen, .inr ⟨_, m, ⟨R⟩, rfl, Nat.zero_le _, heap_alloc_new w _, Nat.le_refl _, ?_, by simpa using hlen, List.take_of_length_le (Nat.le_of_eq hlen)⟩⟩
      have := Nat.le_of_ble_eq_true hsm2
      unfold maxLen; omega

theorem s_buildSlice {t e : TypeId} {st s : Nat} {gt ge : Bool} {ue : TypeDesc} {z : Value} [ht : Ty P t (.slice e) st gt] [he : Ty P e ue s ge] [hz : Zr P e z] {m : Nat} {xs : List (Nat × Operand)} {vs : List (Nat × Value)} {R0 R : List Value}
    (hx : evps L xs = some vs) (hzl : Nat.beq z.cells.toList.length s = true) (hC : putsR s (reps z.cells.toList m) vs = some R0) (hn : R0 = R) (hsm : Nat.ble (m * s) 16777216 = true) (hsm2 : Nat.ble m 16777216 = true) (hlt : Nat.blt d n = true)
    (k : ∀ b, K ((d, .slice (some ⟨b, 0, none⟩) m m) :: L) F (.row (some ⟨b, 0, none⟩) m m e s R :: M)) :
    Stp P w0 n L D F M ⟨some d, .buildSlice t m xs.toArray, ty, ps, af, none⟩ K :=
  by subst hn; exact s_buildSlice0 hx hzl hC hsm hsm2 hlt k
end stp2

/-! frozen slices: R tells what the cells of an element say -/
def RdA {α : Type} (R : FH → α → List Value → Prop) (F : FH) (sz : Nat) (A : Option Addr) (c : Nat) (xs : List α) : Prop :=
  xs.length ≤ c ∧ c ≤ maxLen ∧ (A = none → c = 0) ∧ (xs ≠ [] → ∃ b o, A = some ⟨b, o, none⟩ ∧ ∀ i x, xs[i]? = some x → ∃ cs, cs.length = sz ∧ RdF F b (o + i * sz) cs ∧ R F x cs)
/-- elements without pointers -/
def Flat {α : Type} (f : α → List Value) : FH → α → List Value → Prop := fun _ x cs => cs = f x
theorem RdA.mono {α : Type} {R : FH → α → List Value → Prop} {F F' : FH} {sz : Nat} {A : Option Addr} {c : Nat} {xs : List α} (h : RdA R F sz A c xs) (hl : Fle F F') (hR : ∀ x cs, R F x cs → R F' x cs) : RdA R F' sz A c xs := by
  refine ⟨h.1, h.2.1, h.2.2.1, fun hne => ?_⟩
  obtain ⟨b, o, e, hh⟩ := h.2.2.2 hne
  refine ⟨b, o, e, fun i x hx => ?_⟩
  obtain ⟨cs, h1, h2, h3⟩ := hh i x hx
  exact ⟨cs, h1, h2.mono hl, hR x cs h3⟩
theorem RdA.flat {α : Type} {f : α → List Value} {F F' : FH} {sz : Nat} {A : Option Addr} {c : Nat} {xs : List α} (h : RdA (Flat f) F sz A c xs) (hl : Fle F F') : RdA (Flat f) F' sz A c xs := h.mono hl fun _ _ h => h
theorem RdA.nil {α : Type} (R : FH → α → List Value → Prop) (F : FH) (sz : Nat) : RdA R F sz none 0 ([] : List α) := ⟨Nat.le_refl _, Nat.zero_le _, fun _ => rfl, fun h => absurd rfl h⟩
theorem RdA.at {α : Type} {R : FH → α → List Value → Prop} {A : Option Addr} {c sz : Nat} {xs : List α} (hr : RdA R F sz A c xs) {i : Nat} (h1 : i < xs.length) :
    ∃ b o cs, A = some ⟨b, o, none⟩ ∧ cs.length = sz ∧ RdF F b (o + i * sz) cs ∧ R F (xs[i]'h1) cs := by
  obtain ⟨b, o, rfl, hh⟩ := hr.2.2.2 (fun h => by subst h; simp at h1)
  obtain ⟨cs, c1, c2, c3⟩ := hh i _ (List.getElem?_eq_getElem h1)
  exact ⟨b, o, cs, rfl, c1, c2, c3⟩
/-- A row that is owned is given up: from now on it is only read. -/
theorem At.freezeRow {K : Act → World → Prop} {A : Option Addr} {m c : Nat} {e : TypeId} {sz : Nat} {cs : List Value} {M1 : OM} (hd : Del M (.row A m c e sz cs) M1)
    (k : ∀ F', Fle F F' → (∀ {α : Type} (R : FH → α → List Value → Prop) (xs : List α), xs.length = m → (∀ i x, xs[i]? = some x → R F' x (sub cs (i * sz) sz)) → RdA R F' sz A c xs) → At w0 n K L D F' M1) : At w0 n K L D F M := by
  intro a w hf hs
  obtain ⟨l1, l2, hM, hM1⟩ := hd.split
  have hown : (Ch.row A m c e sz cs).ok w := hs.own _ (by subst hM; simp)
  obtain ⟨hlen, h⟩ := hown
  rcases h with ⟨h1, h2⟩ | ⟨g, cap, C, h1, _, hg, h3, h4, h5, h6⟩
  · cases h1
    refine k F (Fle.refl F) (fun R xs hxs _ => ?_) a w hf (hs.drop hd)
    have : xs = [] := List.eq_nil_of_length_eq_zero hxs
    subst this
    exact RdA.nil R F sz
  · cases h1
    obtain ⟨hl, hs'⟩ := hs.freeze hd (b := g) (o := .cells C e (0, 0)) (by simp [Ch.foot, Value.ownBlock]) hg
    refine k _ hl (fun R xs hxs hR => ⟨by omega, h4, (fun h => by cases h), fun _ => ⟨g, 0, rfl, fun i x hx => ⟨_, ?_, ⟨C, e, (0, 0), by simp [FH.add], fun j v hj => ?_⟩, hR i x hx⟩⟩⟩) a w hf hs'
    · have hi : i < m := by rw [← hxs]; exact (List.getElem?_eq_some_iff.1 hx).1
      have : i * sz + sz ≤ m * sz := by rw [← Nat.succ_mul]; exact Nat.mul_le_mul_right _ hi
      simp only [sub, List.length_take, List.length_drop]
      omega
    · have hi : i < m := by rw [← hxs]; exact (List.getElem?_eq_some_iff.1 hx).1
      simp only [sub, List.getElem?_take, List.getElem?_drop] at hj
      split at hj
      · rw [← h6, List.getElem?_take] at hj
        split at hj
        · simpa using hj
        · cases hj
      · cases hj
/-- A block is given up. -/
theorem At.freezeBlk {K : Act → World → Prop} {b : Nat} {C : List Value} {e : TypeId} {M1 : OM} (hd : Del M (.blk b (.cells ⟨C⟩ e (0, 0))) M1)
    (k : ∀ F', Fle F F' → RdF F' b 0 C → At w0 n K L D F' M1) : At w0 n K L D F M := by
  intro a w hf hs
  obtain ⟨l1, l2, hM, hM1⟩ := hd.split
  have hown : (Ch.blk b (.cells ⟨C⟩ e (0, 0))).ok w := hs.own _ (by subst hM; simp)
  obtain ⟨hl, hs'⟩ := hs.freeze hd (b := b) (o := .cells ⟨C⟩ e (0, 0)) (by simp [Ch.foot]) hown
  exact k _ hl ⟨⟨C⟩, e, (0, 0), by simp [FH.add], fun j v hj => by simpa using hj⟩ a w hf hs'
theorem At.drop {K : Act → World → Prop} {c : Ch} {M1 : OM} (hd : Del M c M1) (k : At w0 n K L D F M1) : At w0 n K L D F M := fun a w hf hs => k a w hf (hs.drop hd)
end ops
end Go.Sx
