/- Equality of structs whose fields are numbers, truth values, strings. -/
import Derived.Test.YtohbfncogdligaaSxStop
import Derived.DeepKeys
namespace Go.Sx
open Go
section
variable {P : Program} {w0 : World} {n : Nat} {L : SL} {D : List Deferred} {F : FH} {M : OM} {ty : TypeId}
theorem run_equal_deep {t : TypeId} {a b : Value} {la lb : List Lit} {r : Bool} (hk : P.keyTypeAt 10 t = true) (fa : a.formed P t = true) (fb : b.formed P t = true) (ha : P.keyLits 10 t a.cells.toList = some la) (hb : P.keyLits 10 t b.cells.toList = some lb) (hr : r = true ↔ la = lb) (w : World) :
    (Op.equal t a b).run P w = .ok r w := by
  have h : EqAt P (9990 + 10) t := run_equalIn_deep 9990 10 t hk
  obtain ⟨q, hq, hiff⟩ := h w 10 10 a b la lb fa fb ha hb
  have : q = r := by
    cases q <;> cases r <;> simp_all
  rw [← this]
  exact hq
theorem guard_AA {op : BinOp} {t : TypeId} {x y : Operand} {a b : Array Value} (hg : P.eqGuardType P.depth t = false) (w : World) : (eqGuard op t x y (.agg a) (.agg b)).run P w = .ok () w := by
  unfold eqGuard
  split <;> simp [hg]
theorem v_neqDeep {t u : TypeId} {x y : Operand} {A B : List Value} {la lb : List Lit} {r : Bool} (hx : ev L x = some (.agg ⟨A⟩)) (hy : ev L y = some (.agg ⟨B⟩)) (hg : P.eqGuardType P.depth t = false) (hk : P.keyTypeAt 10 t = true) (fa : (Value.agg ⟨A⟩).formed P t = true) (fb : (Value.agg ⟨B⟩).formed P t = true)
    (ha : P.keyLits 10 t A = some la) (hb : P.keyLits 10 t B = some lb) (hr : r = true ↔ la = lb) :
    RunV P w0 n L D F M (.binOp .neq t x y u) ty (.bool (!r)) := by
  refine v_bin hx hy (guard_AA hg) fun w => ?_
  have := run_equal_deep (P := P) (a := .agg ⟨A⟩) (b := .agg ⟨B⟩) hk fa fb ha hb hr w
  simp only [Go.binOp]
  simp [this]
theorem v_eqDeep {t u : TypeId} {x y : Operand} {A B : List Value} {la lb : List Lit} {r : Bool} (hx : ev L x = some (.agg ⟨A⟩)) (hy : ev L y = some (.agg ⟨B⟩)) (hg : P.eqGuardType P.depth t = false) (hk : P.keyTypeAt 10 t = true) (fa : (Value.agg ⟨A⟩).formed P t = true) (fb : (Value.agg ⟨B⟩).formed P t = true)
    (ha : P.keyLits 10 t A = some la) (hb : P.keyLits 10 t B = some lb) (hr : r = true ↔ la = lb) :
    RunV P w0 n L D F M (.binOp .eql t x y u) ty (.bool r) := by
  refine v_bin hx hy (guard_AA hg) fun w => ?_
  have := run_equal_deep (P := P) (a := .agg ⟨A⟩) (b := .agg ⟨B⟩) hk fa fb ha hb hr w
  simp only [Go.binOp]
  simp [this]
end
end Go.Sx
