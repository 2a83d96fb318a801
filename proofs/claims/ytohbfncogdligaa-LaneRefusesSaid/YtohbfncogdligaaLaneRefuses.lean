/- The law LaneRefuses returns true for every index, kind and item number; no condition. -/
import Derived.Test.YtohbfncogdligaaRows
import Derived.WalkKit
import Derived.ProofKit
import Derived.OpenShut
import Derived.Test.YtohbfncogdligaaSxN
namespace Go.Proofs.Ytohbfncogdligaa.laneRefuses
open Go.ChangeShapes Go.WideShapes Go.ChangeAt Go.RowKit
set_option linter.unusedVariables false      -- a walk need not use every 'w<i>' (that an integer argument fits its kind)

theorem own : ownKnob Try.prog.godebug = none := by kernel_rfl

open Go.Sx in
theorem kept_of_sat {W w' : World} {F' : FH} {M' : OM} (hs : Sat W F' M' w') (hl : Fle (fun b => W.heap[b]?) F') : W.keptBut w' (fun _ => False) := by
  refine ⟨hs.os, hs.output, fun i hi => ?_⟩
  have h1 : W.heap[i]? = some W.heap[i] := Array.getElem?_eq_getElem hi
  have h2 : w'.heap[i]? = W.heap[i]? := by rw [h1]; exact hs.fro i _ (hl i _ h1)
  rw [h2]
  exact (World.keptBut_refl W (fun _ => False)).2.2 i hi
open Go.Sx in
theorem sat_start (W : World) : Sat W (fun b => W.heap[b]?) [] W :=
  ⟨rfl, rfl, rfl, Nat.le_refl _, fun _ _ h => h, fun c h => absurd h (List.not_mem_nil), fun c h => absurd h (List.not_mem_nil), List.nodup_nil⟩
open Go.Sx in
theorem walk (a0 : Int) (a1 : Int) (a2 : Int) (w0 : (Lit.int .i32 a0).wf = true) (w1 : (Lit.int .i64 a1).wf = true) (w2 : (Lit.int .i64 a2).wf = true) (w : World) :
    Calls Try.prog 3 #[.int .i32 a0, .int .i64 a1, .int .i64 a2] w fun e w' => e = .returned (.bool true) ∧ w.keptBut w' (fun _ => False) := by
  have hb : -2147483648 ≤ a0 ∧ a0 ≤ 2147483647 := by
    simp [Lit.wf, IntKind.min, IntKind.max, IntKind.bits, IntKind.signed] at w0
    omega
  have key : Tri Try.prog 3 [.int .i32 a0, .int .i64 a1, .int .i64 a2] (fun b => w.heap[b]?) [] fun v F' M' => v = .bool true ∧ M' = [] := by
    rcases (by omega : (0 ≤ a0 ∧ a0 < 4) ∨ (a0 < 0 ∨ 4 ≤ a0)) with h | h
    · obtain ⟨i, rfl⟩ := Int.eq_ofNat_of_zero_le h.1
      exact Sx.Try.law_in i (by omega) a1 a2 _ []
    · exact Sx.Try.law_out a0 h hb a1 a2 _ []
  refine (key w w (sat_start w)).mono fun e w' he => ?_
  obtain ⟨v, F', M', rfl, hl, hs, rfl, _⟩ := he
  exact ⟨rfl, kept_of_sat hs hl⟩
/-- what holds after a call that got no memory and left the old memory as it was -/
theorem post_nil {H : Type} {enc : TypeId × Value → H} {P : Program} {f : Func} {s : ChangeSpec} {apart fresh handsOn again : Bool} {W W' : World} {args : Array Value} {v : Value} {ds gs : List (DataW H)}
    (hW : DataW.Whole enc P f.params.toList s.vars apart W args.toList ds gs [])
    (hres : ∀ (b : Nat) (sp : Nat → Bool) (hd : Bool), DataW.TrodAll enc P W' b sp hd f.resultTypes.toList (v.resultList f.resultTypes.size) (s.fn H (ds ++ gs)).results [])
    (hargs : ∀ sp : Nat → Bool, DataW.TrodAll enc P W' 0 sp true f.params.toList args.toList (s.fn H (ds ++ gs)).args [])
    (hvars : ∀ sp : Nat → Bool, DataW.TrodVars enc P W' sp s.vars (s.fn H (ds ++ gs)).vars [])
    (hk : W.keptBut W' (fun _ => False))
    (hok : ∀ (j : Nat) (t : TypeId) (r : Value), f.resultTypes[j]? = some t → (v.resultList f.resultTypes.size)[j]? = some r → Value.okWide P W' .any 0 t r) :
    s.post enc P f apart fresh handsOn again W args v W' := by
  refine ⟨ds, gs, [], [], [], [], hW, hres _ _ _, hargs _, hvars _, World.keptBut_mono (fun p hp => hp.elim) hk, fun _ => ?_⟩
  have hall := trodAll_append (hargs fun _ => true) (hres 0 (fun _ => true) true)
  refine ⟨hok, _, _, [], ⟨[], [], hall, hvars _, rfl, fun b off hp => ?_, fun _ => ?_⟩, fun p hp _ => ?_⟩
  · cases hp
  · exact List.Pairwise.nil
  · cases hp
/-! ### THE ROW's STEP: WRITTEN OUT: LEAVE IT -/
set_option maxRecDepth 100000 in
theorem lifted (os : Os) (started : os.Started) (H : Type) (enc : TypeId × Value → H) :
    ReturnsInHanded {} Try.checked os 3 .any (Rows.laneRefusesSpec.pre6 enc Try.prog Try.f3 Rows.laneRefusesRow.domain false) (Rows.laneRefusesSpec.post enc Try.prog Try.f3 false true false false) := by
  refine returnsInHanded_of_change (C := Try.checked) own started (by kernel_rfl) Try.func3
    (ChangeSpec.witness6 (enc := enc) (C := Try.checked) false ⟨#[], #[.int .i32 0, .int .i64 0, .int .i64 0], []⟩ 8 (by kernel_rfl) (by kernel_rfl) (by kernel_rfl) (by kernel_rfl)) ?_
  intro W base args ds gs before hval0 hW hcnd _
  have hval : ∀ (j : Nat) t v, Try.f3.params[j]? = some t → args[j]? = some v → Value.okWide Try.prog W .any base t v := hval0
  have hW' := hW
  obtain ⟨p, q, hA0, hV, rfl, hfz, hnd⟩ := hW
  have hA : DataW.TrodAll enc Try.prog W 0 (fun _ => true) true Try.f3.params.toList args.toList ds p := hA0
  rw [Try.params3] at hA hval
  obtain ⟨v0, vs0, d0, ds0, p0, q0, hargs, rfl, rfl, h0, r0⟩ := trodAll_cons hA
  obtain ⟨v1, vs1, d1, ds1, p1, q1, rfl, rfl, rfl, h1, r1⟩ := trodAll_cons r0
  obtain ⟨v2, vs2, d2, ds2, p2, q2, rfl, rfl, rfl, h2, r2⟩ := trodAll_cons r1
  obtain ⟨rfl, rfl, rfl⟩ := trodAll_nil r2
  obtain rfl : args = #[v0, v1, v2] := by cases args; simp_all
  obtain ⟨rfl, rfl⟩ := trodVars_none hV
  obtain ⟨a0, rfl, rfl, rfl, w0⟩ := open_int Try.underlying21 (hval 0 21 v0 rfl rfl) h0
  obtain ⟨a1, rfl, rfl, rfl, w1⟩ := open_int Try.underlying3 (hval 1 3 v1 rfl rfl) h1
  obtain ⟨a2, rfl, rfl, rfl, w2⟩ := open_int Try.underlying3 (hval 2 3 v2 rfl rfl) h2
  clear hA0 hval0
  simp only [List.append_nil] at hW'
  refine (walk a0 a1 a2 w0 w1 w2 W).mono fun e W' ⟨he, hg⟩ => ?_
  subst he
  exact ⟨_, rfl, post_nil hW' (fun _ _ _ => (trodAll_cons_mk (shut_bool Try.underlying4 _) trodAll_mk0)) (fun sp => (trodAll_cons_mk (shut_int Try.underlying21 w0) (trodAll_cons_mk (shut_int Try.underlying3 w1) (trodAll_cons_mk (shut_int Try.underlying3 w2) trodAll_mk0)))) (fun _ => rfl)
    hg (ok_one (by kernel_rfl) rfl (okWide_bool_mk Try.underlying4 _))⟩

theorem over : Rows.laneRefusesRow.holds Try.pinned (OpenSpec.ofChange Rows.laneRefusesSpec) :=
  OpenClaim.holds_of_wide 3 Try.f3 rfl rfl rfl rfl rfl rfl rfl ⟨rfl, rfl, rfl, rfl, rfl⟩ rfl rfl rfl rfl rfl (by kernel_rfl) Try.func3 (by kernel_rfl)
    (of_decide_eq_true (by kernel_rfl)) (by unfold Func.isWrapper; first | (rw [if_pos (by decide +kernel)]; kernel_rfl) | (rw [if_neg (by decide +kernel)]; exact ⟨rfl, rfl⟩))
    (fun os started H enc _ => lifted os started H enc)

/-- ████ THE STATEMENT ████ -/
theorem proved : Rows.LaneRefusesSaid :=
  over
#print axioms proved
end Go.Proofs.Ytohbfncogdligaa.laneRefuses
