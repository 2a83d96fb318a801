/- Contracts: the deferred function, words of arrays. -/
import Derived.Test.YtohbfncogdligaaSxStop
import Derived.Test.YtohbfncogdligaaSxD
namespace Go.Sx.Try
open Go Go.Proofs
set_option linter.unusedSimpArgs false
set_option linter.unusedVariables false
attribute [local irreducible] Wc Wl Nm Rt Ex Again Dr At Done Tri Stp RunV
attribute [local irreducible] AtS WlS TriP DoneP DoneD Pn StpP DoneU TriU
abbrev outV : Value := .iface 85 (.agg ⟨[]⟩)
theorem out_eq (w : World) : (Go.binOp .eql 20 outV outV).run Try.prog w = .ok (.bool true) w := by
  obtain ⟨i, hi, hc⟩ : ∃ i, Try.prog.info? 85 = some i ∧ i.comparable = true := by
    cases h : Try.prog.info? 85 with
    | none => exact absurd h (by decide +kernel)
    | some i => exact ⟨i, rfl, by have : (Try.prog.info? 85).map (·.comparable) = some true := by decide +kernel
                                  rw [h] at this; simpa using this⟩
  have h2 : (Op.equalIn (9999 + 1) 20 outV outV).run Try.prog w = .ok true w := by
    rw [run_eqIn_iface Try.underlying20 hi hc 9999 w]
    exact run_eqIn_unit (dd := 9998) Try.underlying85 (by decide +kernel) w
  simp only [Go.binOp]
  simp [Op.equal, Op.maxDepth, h2]
theorem out_ne (w : World) : (Go.binOp .eql 20 .nilIface outV).run Try.prog w = .ok (.bool false) w := by
  have h2 : (Op.equalIn (9999 + 1) 20 .nilIface outV).run Try.prog w = .ok false w := run_eqIn_nilI Try.underlying20 9999 w
  simp only [Go.binOp]
  simp [Op.equal, Op.maxDepth, h2]
/-- the deferred function of step, when nothing panicked -/
theorem rec_ret (b : Nat) (F : FH) (M : OM) : TriU Try.prog 25 [.pointer (some ⟨b, 0, none⟩)] .returning .returning F M fun F' M' => F' = F ∧ M' = M := by
  refine triU_of Try.func25 rfl Try.ntmps25 rfl [0, 1, 2, 3] rfl fun w0 c0 cs hu QS hQ => ?_
  refine u_recoverN rfl (by simp [recoverD, hu]) rfl ?_
  refine u_v rfl (v_build rfl (by rfl) (by (try simp only [stC, arrC, pC, lC, mC, LL, Nat.reduceAdd, Nat.reduceMul]); rfl)) rfl ?_
  refine u_v rfl (v_makeInterface rfl rfl) rfl ?_
  refine u_v rfl (v_bin rfl rfl guard_NI out_ne) rfl ?_
  refine u_nil ?_
  have hc : ({ c0 with mode := FrameMode.returning } : Frame) = c0 := by rw [← hu]
  rw [← hc]
  refine hQ _ ?_
  repeat (first | refine r_nil ?_ | refine r_seq ?_ | refine r_nm_then ?_ | refine r_region ?_ | refine r_cond_t rfl ?_ | refine r_cond_f rfl ?_ | refine r_nm_block ?_ | refine r_skip ?_ | refine r_block ?_ | refine r_ret ?_ | refine r_rt_then ?_ | refine r_rt_block ?_ | refine r_exit ?_ | refine r_ex_then ?_ | refine r_ex_here ?_ | refine r_ex_on rfl ?_)
  exact r_endU rfl (Fle.refl _) ⟨rfl, rfl⟩
/-- when 'outside' panicked -/
theorem rec_pan (b : Nat) (z : Int) (F : FH) (M M1 : OM) (hm : Upd M (.blk b (.cells ⟨[.int .i64 z]⟩ 48 (0, 0))) (.blk b (.cells ⟨[.int .i64 70]⟩ 48 (0, 0))) M1) (hh : Has M (.blk b (.cells ⟨[.int .i64 z]⟩ 48 (0, 0)))) :
    TriU Try.prog 25 [.pointer (some ⟨b, 0, none⟩)] (.panicking [{ v := outV, recovered := false }]) (.panicking [{ v := outV, recovered := true }]) F M fun F' M' => F' = F ∧ M' = M1 := by
  refine triU_of Try.func25 rfl Try.ntmps25 rfl [0, 1, 2, 3] rfl fun w0 c0 cs hu QS hQ => ?_
  refine u_recover rfl (by simp only [recoverD, hu]; rfl) rfl ?_
  refine u_v rfl (v_build rfl (by rfl) (by (try simp only [stC, arrC, pC, lC, mC, LL, Nat.reduceAdd, Nat.reduceMul]); rfl)) rfl ?_
  refine u_v rfl (v_makeInterface rfl rfl) rfl ?_
  refine u_v rfl (v_bin rfl rfl guard_II out_eq) rfl ?_
  refine u_nil ?_
  refine hQ _ ?_
  repeat (first | refine r_nil ?_ | refine r_seq ?_ | refine r_nm_then ?_ | refine r_region ?_ | refine r_cond_t rfl ?_ | refine r_cond_f rfl ?_ | refine r_nm_block ?_ | refine r_skip ?_ | refine r_block ?_ | refine r_ret ?_ | refine r_rt_then ?_ | refine r_rt_block ?_ | refine r_exit ?_ | refine r_ex_then ?_ | refine r_ex_here ?_ | refine r_ex_on rfl ?_)
  refine r_s rfl (s_store rfl rfl (by (try simp only [stC, arrC, pC, lC, mC, LL, Nat.reduceAdd, Nat.reduceMul]); rfl) (by rfl) (by rfl) hh (by rfl) (by rfl) hm ?_)
  repeat (first | refine r_nil ?_ | refine r_seq ?_ | refine r_nm_then ?_ | refine r_region ?_ | refine r_cond_t rfl ?_ | refine r_cond_f rfl ?_ | refine r_nm_block ?_ | refine r_skip ?_ | refine r_block ?_ | refine r_ret ?_ | refine r_rt_then ?_ | refine r_rt_block ?_ | refine r_exit ?_ | refine r_ex_then ?_ | refine r_ex_here ?_ | refine r_ex_on rfl ?_)
  exact r_endU rfl (Fle.refl _) ⟨rfl, rfl⟩

/-- the cells of a machine -/
abbrev mC (Aa Ap : Option Addr) (ca cp : Nat) (id pc a ep : Int) (gv : Nat) (As Aq Al : Option Addr) (cv cs cq cl go : Nat) (sh ev : Value) : List Value :=
  [I 4, I 1, I 0, I 1, I 0, I 0, .slice Aa 1 ca, .slice Ap 4 cp, .slice none 0 0, I 1, .slice none 0 0, I id, I pc, I a, I ep, .slice (some ⟨gv, 0, none⟩) 1 cv, .slice As 0 cs, .slice Aq 1 cq, .slice Al 0 cl, .slice (some ⟨go, 0, none⟩) 1 1, sh, ev]
section
variable {Aa Ap : Option Addr} {ca cp : Nat} {id pc a ep : Int} {gv : Nat} {As Aq Al : Option Addr} {cv cs cq cl go gg m : Nat} {sh ev : Value} {F : FH} {M : OM}
theorem word_in (g : List Int) (i : Nat) (hi : i < g.length) (hl : g.length ≤ 1048576) (ha : RdA (Flat arrC) F 4 Aa ca [(g.length : Int)]) (hm : Has M (.blk m (.cells ⟨mC Aa Ap ca cp id pc a ep gv As Aq Al cv cs cq cl go sh ev⟩ 79 (0, 0))))
    (hg : Has M (.row (some ⟨go, 0, none⟩) 1 1 41 1 [.slice (some ⟨gg, 0, none⟩) g.length g.length])) :
    Tri Try.prog 37 [.pointer (some ⟨m, 0, none⟩), I 0, W i] F M fun v F' M' => v = .pointer (some ⟨gg, i, none⟩) ∧ F' = F ∧ M' = M := by
  obtain ⟨ab, ao, acs, rfl, hal, hrd, rfl⟩ := ha.at (i := 0) (by simp)
  simp only [List.getElem_cons_zero, Nat.zero_mul, Nat.add_zero] at hrd
  refine tri_of Try.func37 rfl Try.ntmps37 rfl fun w0 => ?_ ; repeat (first | refine r_nil ?_ | refine r_seq ?_ | refine r_nm_then ?_ | refine r_region ?_ | refine r_cond_t rfl ?_ | refine r_cond_f rfl ?_ | refine r_nm_block ?_ | refine r_skip ?_ | refine r_block ?_ | refine r_ret ?_ | refine r_rt_then ?_ | refine r_rt_block ?_ | refine r_exit ?_ | refine r_ex_then ?_ | refine r_ex_here ?_ | refine r_ex_on rfl ?_)
  refine r_v (by exact v_assign rfl) rfl ?_
  repeat (first | refine r_nil ?_ | refine r_seq ?_ | refine r_nm_then ?_ | refine r_region ?_ | refine r_cond_t rfl ?_ | refine r_cond_f rfl ?_ | refine r_nm_block ?_ | refine r_skip ?_ | refine r_block ?_ | refine r_ret ?_ | refine r_rt_then ?_ | refine r_rt_block ?_ | refine r_exit ?_ | refine r_ex_then ?_ | refine r_ex_here ?_ | refine r_ex_on rfl ?_)
  refine r_v (by exact v_move rfl) rfl ?_
  refine r_v (by first | exact v_nilCheckP rfl | exact v_nilCheckF rfl) rfl ?_
  refine r_v (by exact v_fieldAddr rfl (by (try simp only [Nat.add_assoc, Nat.reduceAdd, Nat.reduceMul, Nat.add_zero, Nat.zero_add, Int.reduceToNat, Int.toNat_natCast, Nat.zero_mul, Nat.mul_one]); rfl)) rfl ?_
  refine r_v (by exact v_fieldAddr rfl (by (try simp only [Nat.add_assoc, Nat.reduceAdd, Nat.reduceMul, Nat.add_zero, Nat.zero_add, Int.reduceToNat, Int.toNat_natCast, Nat.zero_mul, Nat.mul_one]); rfl)) rfl ?_
  refine r_v (by first | exact v_load1M rfl (by repeat (first | exact .head | assumption | apply Has.tail)) (by rfl) | exact v_load1F rfl (by assumption) (by first | rfl | exact (Nat.add_zero _).symm) (by rfl) | exact v_load1R rfl (by repeat (first | exact .head | assumption | apply Has.tail)) (by rfl)) rfl ?_
  refine r_v (by exact v_move rfl) rfl ?_
  refine r_v (by exact v_indexAddr rfl rfl (by omega) (by omega) (by (try simp only [Nat.add_assoc, Nat.reduceAdd, Nat.reduceMul, Nat.add_zero, Nat.zero_add, Int.reduceToNat, Int.toNat_natCast, Nat.zero_mul, Nat.mul_one]); rfl)) rfl ?_
  refine r_v (by first | exact v_loadAM rfl (by repeat (first | exact .head | assumption | apply Has.tail)) (by (try simp only [stC, arrC, pC, lC, mC, LL, Nat.reduceAdd, Nat.reduceMul]); rfl) (by rfl) | exact v_loadAF rfl (by assumption) (by first | rfl | exact (Nat.add_zero _).symm) (by (try simp only [stC, arrC, pC, lC, mC, LL, Nat.reduceAdd, Nat.reduceMul]); rfl) (by rfl) | exact v_loadAR rfl (by repeat (first | exact .head | assumption | apply Has.tail)) (by (try simp only [stC, arrC, pC, lC, mC, LL, Nat.reduceAdd, Nat.reduceMul]); rfl) (by rfl)) rfl ?_
  refine r_s rfl (s_allocA rfl fun b7 => ?_)
  first | refine r_s rfl (s_store rfl rfl (by (try simp only [stC, arrC, pC, lC, mC, LL, Nat.reduceAdd, Nat.reduceMul]); rfl) (by rfl) (by rfl) (by repeat (first | exact .head | assumption | apply Has.tail)) (by rfl) (by (try simp only [stC, arrC, pC, lC, mC, LL, Nat.reduceAdd, Nat.reduceMul]); rfl) (by repeat (first | exact .head | apply Upd.tail)) ?_) | refine r_s rfl (s_storeR rfl rfl (by (try simp only [stC, arrC, pC, lC, mC, LL, Nat.reduceAdd, Nat.reduceMul]); rfl) (by rfl) (by rfl) (by repeat (first | exact .head | assumption | apply Has.tail)) (by first | decide | (simp [reps, Value.cells]; done) | omega) (by (try simp only [stC, arrC, pC, lC, mC, LL, Nat.reduceAdd, Nat.reduceMul]); rfl) (by repeat (first | exact .head | apply Upd.tail)) ?_)
  repeat (first | refine r_nil ?_ | refine r_seq ?_ | refine r_nm_then ?_ | refine r_region ?_ | refine r_cond_t rfl ?_ | refine r_cond_f rfl ?_ | refine r_nm_block ?_ | refine r_skip ?_ | refine r_block ?_ | refine r_ret ?_ | refine r_rt_then ?_ | refine r_rt_block ?_ | refine r_exit ?_ | refine r_ex_then ?_ | refine r_ex_here ?_ | refine r_ex_on rfl ?_)
  refine r_v (by exact v_move rfl) rfl ?_
  refine r_v (by exact v_arith rfl rfl (by first | exact b_lt (by decide) | exact b_nlt (by decide) | exact b_lt (by omega) | exact b_nlt (by omega) | exact b_lss)) rfl ?_
  refine r_v (by exact v_move rfl) rfl ?_
  first | refine r_guard_n rfl rfl rfl rfl ?_ | (refine r_guard_y rfl rfl ?_ ; refine r_v (by exact v_move rfl) rfl ?_)
  first | refine r_guard_n rfl rfl rfl rfl ?_ | (refine r_guard_y rfl rfl ?_ ; refine r_v (by exact v_conv rfl rfl (by first | exact wr64n (by omega) (by (try simp only [Int.reduceAdd, Int.reduceSub, Int.reduceMul, Int.reduceNeg, Int.add_zero, Int.zero_add, Int.reduceDiv, Int.reduceMod, Int.reduceTDiv, Int.reduceTMod, Int.one_mul, Int.mul_one]); rfl) | exact wr32n (by omega) (by (try simp only [Int.reduceAdd, Int.reduceSub, Int.reduceMul, Int.reduceNeg, Int.add_zero, Int.zero_add, Int.reduceDiv, Int.reduceMod, Int.reduceTDiv, Int.reduceTMod, Int.one_mul, Int.mul_one]); rfl) | rfl)) rfl ?_)
  first | refine r_guard_n rfl rfl rfl rfl ?_ | (refine r_guard_y rfl rfl ?_ ; refine r_v (by exact v_fieldAddr rfl (by (try simp only [Nat.add_assoc, Nat.reduceAdd, Nat.reduceMul, Nat.add_zero, Nat.zero_add, Int.reduceToNat, Int.toNat_natCast, Nat.zero_mul, Nat.mul_one]); rfl)) rfl ?_)
  first | refine r_guard_n rfl rfl rfl rfl ?_ | (refine r_guard_y rfl rfl ?_ ; refine r_v (by first | exact v_load1M rfl (by repeat (first | exact .head | assumption | apply Has.tail)) (by rfl) | exact v_load1F rfl (by assumption) (by first | rfl | exact (Nat.add_zero _).symm) (by rfl) | exact v_load1R rfl (by repeat (first | exact .head | assumption | apply Has.tail)) (by rfl)) rfl ?_)
  first | refine r_guard_n rfl rfl rfl rfl ?_ | (refine r_guard_y rfl rfl ?_ ; refine r_v (by exact v_arith rfl rfl (by first | exact b_ge (by decide) | exact b_nge (by decide) | exact b_ge (by omega) | exact b_nge (by omega) | exact b_geq)) rfl ?_)
  refine r_v (by first | exact v_pickT rfl rfl | exact v_pickF rfl rfl | exact v_pick rfl rfl rfl) rfl ?_
  repeat (first | refine r_nil ?_ | refine r_seq ?_ | refine r_nm_then ?_ | refine r_region ?_ | refine r_cond_t rfl ?_ | refine r_cond_f rfl ?_ | refine r_nm_block ?_ | refine r_skip ?_ | refine r_block ?_ | refine r_ret ?_ | refine r_rt_then ?_ | refine r_rt_block ?_ | refine r_exit ?_ | refine r_ex_then ?_ | refine r_ex_here ?_ | refine r_ex_on rfl ?_)
  refine r_v (by exact v_fieldAddr rfl (by (try simp only [Nat.add_assoc, Nat.reduceAdd, Nat.reduceMul, Nat.add_zero, Nat.zero_add, Int.reduceToNat, Int.toNat_natCast, Nat.zero_mul, Nat.mul_one]); rfl)) rfl ?_
  refine r_v (by first | exact v_load1M rfl (by repeat (first | exact .head | assumption | apply Has.tail)) (by rfl) | exact v_load1F rfl (by assumption) (by first | rfl | exact (Nat.add_zero _).symm) (by rfl) | exact v_load1R rfl (by repeat (first | exact .head | assumption | apply Has.tail)) (by rfl)) rfl ?_
  repeat (first | refine r_nil ?_ | refine r_seq ?_ | refine r_nm_then ?_ | refine r_region ?_ | refine r_cond_t rfl ?_ | refine r_cond_f rfl ?_ | refine r_nm_block ?_ | refine r_skip ?_ | refine r_block ?_ | refine r_ret ?_ | refine r_rt_then ?_ | refine r_rt_block ?_ | refine r_exit ?_ | refine r_ex_then ?_ | refine r_ex_here ?_ | refine r_ex_on rfl ?_)
  refine r_v (by exact v_arith rfl rfl (by first | exact b_eq (by decide) | exact b_neq' (by decide) | exact b_eq (by omega) | exact b_neq' (by omega) | exact b_eql)) rfl ?_
  refine r_v (by exact v_assign rfl) rfl ?_
  repeat (first | refine r_nil ?_ | refine r_seq ?_ | refine r_nm_then ?_ | refine r_region ?_ | refine r_cond_t rfl ?_ | refine r_cond_f rfl ?_ | refine r_nm_block ?_ | refine r_skip ?_ | refine r_block ?_ | refine r_ret ?_ | refine r_rt_then ?_ | refine r_rt_block ?_ | refine r_exit ?_ | refine r_ex_then ?_ | refine r_ex_here ?_ | refine r_ex_on rfl ?_)
  refine r_v (by exact v_move rfl) rfl ?_
  refine r_v (by first | exact v_nilCheckP rfl | exact v_nilCheckF rfl) rfl ?_
  refine r_v (by exact v_fieldAddr rfl (by (try simp only [Nat.add_assoc, Nat.reduceAdd, Nat.reduceMul, Nat.add_zero, Nat.zero_add, Int.reduceToNat, Int.toNat_natCast, Nat.zero_mul, Nat.mul_one]); rfl)) rfl ?_
  refine r_v (by first | exact v_load1M rfl (by repeat (first | exact .head | assumption | apply Has.tail)) (by rfl) | exact v_load1F rfl (by assumption) (by first | rfl | exact (Nat.add_zero _).symm) (by rfl) | exact v_load1R rfl (by repeat (first | exact .head | assumption | apply Has.tail)) (by rfl)) rfl ?_
  refine r_v (by exact v_move rfl) rfl ?_
  refine r_v (by exact v_indexAddr rfl rfl (by omega) (by omega) (by (try simp only [Nat.add_assoc, Nat.reduceAdd, Nat.reduceMul, Nat.add_zero, Nat.zero_add, Int.reduceToNat, Int.toNat_natCast, Nat.zero_mul, Nat.mul_one]); rfl)) rfl ?_
  refine r_v (by first | exact v_load1M rfl (by repeat (first | exact .head | assumption | apply Has.tail)) (by rfl) | exact v_load1F rfl (by assumption) (by first | rfl | exact (Nat.add_zero _).symm) (by rfl) | exact v_load1R rfl (by repeat (first | exact .head | assumption | apply Has.tail)) (by rfl)) rfl ?_
  refine r_v (by exact v_move rfl) rfl ?_
  refine r_v (by exact v_indexAddr rfl rfl (by omega) (by omega) (by (try simp only [Nat.add_assoc, Nat.reduceAdd, Nat.reduceMul, Nat.add_zero, Nat.zero_add, Int.reduceToNat, Int.toNat_natCast, Nat.zero_mul, Nat.mul_one]); rfl)) rfl ?_
  refine r_v (by exact v_assign rfl) rfl ?_
  repeat (first | refine r_nil ?_ | refine r_seq ?_ | refine r_nm_then ?_ | refine r_region ?_ | refine r_cond_t rfl ?_ | refine r_cond_f rfl ?_ | refine r_nm_block ?_ | refine r_skip ?_ | refine r_block ?_ | refine r_ret ?_ | refine r_rt_then ?_ | refine r_rt_block ?_ | refine r_exit ?_ | refine r_ex_then ?_ | refine r_ex_here ?_ | refine r_ex_on rfl ?_)
  refine r_end rfl (RVs.tmp rfl RVs.nil) (by repeat (first | exact Fle.refl _ | assumption | refine Fle.trans ?_ (by assumption))) (hm := List.Sublist.cons _ (List.Sublist.refl _)) ?_
  exact ⟨rfl, rfl, rfl⟩
theorem word_out (n : Nat) (i : Int) (hi : i < 0 ∨ n ≤ i) (hb : -2147483648 ≤ i ∧ i ≤ 2147483647) (ha : RdA (Flat arrC) F 4 Aa ca [(n : Int)]) (hm : Has M (.blk m (.cells ⟨mC Aa Ap ca cp id pc a ep gv As Aq Al cv cs cq cl go sh ev⟩ 79 (0, 0)))) :
    TriP Try.prog 37 [.pointer (some ⟨m, 0, none⟩), I 0, W i] F M fun c F' M' => c = [{ v := outV, recovered := false }] ∧ F' = F ∧ M' = M := by
  obtain ⟨ab, ao, acs, rfl, hal, hrd, rfl⟩ := ha.at (i := 0) (by simp)
  simp only [List.getElem_cons_zero, Nat.zero_mul, Nat.add_zero] at hrd
  refine triP_of Try.func37 rfl Try.ntmps37 rfl fun w0 => ?_ ; repeat (first | refine r_nil ?_ | refine r_seq ?_ | refine r_nm_then ?_ | refine r_region ?_ | refine r_cond_t rfl ?_ | refine r_cond_f rfl ?_ | refine r_nm_block ?_ | refine r_skip ?_ | refine r_block ?_ | refine r_ret ?_ | refine r_rt_then ?_ | refine r_rt_block ?_ | refine r_exit ?_ | refine r_ex_then ?_ | refine r_ex_here ?_ | refine r_ex_on rfl ?_)
  refine r_v (by exact v_assign rfl) rfl ?_
  repeat (first | refine r_nil ?_ | refine r_seq ?_ | refine r_nm_then ?_ | refine r_region ?_ | refine r_cond_t rfl ?_ | refine r_cond_f rfl ?_ | refine r_nm_block ?_ | refine r_skip ?_ | refine r_block ?_ | refine r_ret ?_ | refine r_rt_then ?_ | refine r_rt_block ?_ | refine r_exit ?_ | refine r_ex_then ?_ | refine r_ex_here ?_ | refine r_ex_on rfl ?_)
  refine r_v (by exact v_move rfl) rfl ?_
  refine r_v (by first | exact v_nilCheckP rfl | exact v_nilCheckF rfl) rfl ?_
  refine r_v (by exact v_fieldAddr rfl (by (try simp only [Nat.add_assoc, Nat.reduceAdd, Nat.reduceMul, Nat.add_zero, Nat.zero_add, Int.reduceToNat, Int.toNat_natCast, Nat.zero_mul, Nat.mul_one]); rfl)) rfl ?_
  refine r_v (by exact v_fieldAddr rfl (by (try simp only [Nat.add_assoc, Nat.reduceAdd, Nat.reduceMul, Nat.add_zero, Nat.zero_add, Int.reduceToNat, Int.toNat_natCast, Nat.zero_mul, Nat.mul_one]); rfl)) rfl ?_
  refine r_v (by first | exact v_load1M rfl (by repeat (first | exact .head | assumption | apply Has.tail)) (by rfl) | exact v_load1F rfl (by assumption) (by first | rfl | exact (Nat.add_zero _).symm) (by rfl) | exact v_load1R rfl (by repeat (first | exact .head | assumption | apply Has.tail)) (by rfl)) rfl ?_
  refine r_v (by exact v_move rfl) rfl ?_
  refine r_v (by exact v_indexAddr rfl rfl (by omega) (by omega) (by (try simp only [Nat.add_assoc, Nat.reduceAdd, Nat.reduceMul, Nat.add_zero, Nat.zero_add, Int.reduceToNat, Int.toNat_natCast, Nat.zero_mul, Nat.mul_one]); rfl)) rfl ?_
  refine r_v (by first | exact v_loadAM rfl (by repeat (first | exact .head | assumption | apply Has.tail)) (by (try simp only [stC, arrC, pC, lC, mC, LL, Nat.reduceAdd, Nat.reduceMul]); rfl) (by rfl) | exact v_loadAF rfl (by assumption) (by first | rfl | exact (Nat.add_zero _).symm) (by (try simp only [stC, arrC, pC, lC, mC, LL, Nat.reduceAdd, Nat.reduceMul]); rfl) (by rfl) | exact v_loadAR rfl (by repeat (first | exact .head | assumption | apply Has.tail)) (by (try simp only [stC, arrC, pC, lC, mC, LL, Nat.reduceAdd, Nat.reduceMul]); rfl) (by rfl)) rfl ?_
  refine r_s rfl (s_allocA rfl fun b7 => ?_)
  first | refine r_s rfl (s_store rfl rfl (by (try simp only [stC, arrC, pC, lC, mC, LL, Nat.reduceAdd, Nat.reduceMul]); rfl) (by rfl) (by rfl) (by repeat (first | exact .head | assumption | apply Has.tail)) (by rfl) (by (try simp only [stC, arrC, pC, lC, mC, LL, Nat.reduceAdd, Nat.reduceMul]); rfl) (by repeat (first | exact .head | apply Upd.tail)) ?_) | refine r_s rfl (s_storeR rfl rfl (by (try simp only [stC, arrC, pC, lC, mC, LL, Nat.reduceAdd, Nat.reduceMul]); rfl) (by rfl) (by rfl) (by repeat (first | exact .head | assumption | apply Has.tail)) (by first | decide | (simp [reps, Value.cells]; done) | omega) (by (try simp only [stC, arrC, pC, lC, mC, LL, Nat.reduceAdd, Nat.reduceMul]); rfl) (by repeat (first | exact .head | apply Upd.tail)) ?_)
  repeat (first | refine r_nil ?_ | refine r_seq ?_ | refine r_nm_then ?_ | refine r_region ?_ | refine r_cond_t rfl ?_ | refine r_cond_f rfl ?_ | refine r_nm_block ?_ | refine r_skip ?_ | refine r_block ?_ | refine r_ret ?_ | refine r_rt_then ?_ | refine r_rt_block ?_ | refine r_exit ?_ | refine r_ex_then ?_ | refine r_ex_here ?_ | refine r_ex_on rfl ?_)
  rcases (by omega : i < 0 ∨ (0 ≤ i ∧ n ≤ i)) with h0 | ⟨h0, h1⟩
  · refine r_v (by exact v_move rfl) rfl ?_
    refine r_v (by exact v_arith rfl rfl (by first | exact b_lt (by decide) | exact b_nlt (by decide) | exact b_lt (by omega) | exact b_nlt (by omega) | exact b_lss)) rfl ?_
    refine r_v (by exact v_move rfl) rfl ?_
    first | refine r_guard_n rfl rfl rfl rfl ?_ | (refine r_guard_y rfl rfl ?_ ; refine r_v (by exact v_move rfl) rfl ?_)
    first | refine r_guard_n rfl rfl rfl rfl ?_ | (refine r_guard_y rfl rfl ?_ ; refine r_v (by exact v_conv rfl rfl (by first | exact wr64n (by omega) (by (try simp only [Int.reduceAdd, Int.reduceSub, Int.reduceMul, Int.reduceNeg, Int.add_zero, Int.zero_add, Int.reduceDiv, Int.reduceMod, Int.reduceTDiv, Int.reduceTMod, Int.one_mul, Int.mul_one]); rfl) | exact wr32n (by omega) (by (try simp only [Int.reduceAdd, Int.reduceSub, Int.reduceMul, Int.reduceNeg, Int.add_zero, Int.zero_add, Int.reduceDiv, Int.reduceMod, Int.reduceTDiv, Int.reduceTMod, Int.one_mul, Int.mul_one]); rfl) | rfl)) rfl ?_)
    first | refine r_guard_n rfl rfl rfl rfl ?_ | (refine r_guard_y rfl rfl ?_ ; refine r_v (by exact v_fieldAddr rfl (by (try simp only [Nat.add_assoc, Nat.reduceAdd, Nat.reduceMul, Nat.add_zero, Nat.zero_add, Int.reduceToNat, Int.toNat_natCast, Nat.zero_mul, Nat.mul_one]); rfl)) rfl ?_)
    first | refine r_guard_n rfl rfl rfl rfl ?_ | (refine r_guard_y rfl rfl ?_ ; refine r_v (by first | exact v_load1M rfl (by repeat (first | exact .head | assumption | apply Has.tail)) (by rfl) | exact v_load1F rfl (by assumption) (by first | rfl | exact (Nat.add_zero _).symm) (by rfl) | exact v_load1R rfl (by repeat (first | exact .head | assumption | apply Has.tail)) (by rfl)) rfl ?_)
    first | refine r_guard_n rfl rfl rfl rfl ?_ | (refine r_guard_y rfl rfl ?_ ; refine r_v (by exact v_arith rfl rfl (by first | exact b_ge (by decide) | exact b_nge (by decide) | exact b_ge (by omega) | exact b_nge (by omega) | exact b_geq)) rfl ?_)
    refine r_v (by first | exact v_pickT rfl rfl | exact v_pickF rfl rfl | exact v_pick rfl rfl rfl) rfl ?_
    repeat (first | refine r_nil ?_ | refine r_seq ?_ | refine r_nm_then ?_ | refine r_region ?_ | refine r_cond_t rfl ?_ | refine r_cond_f rfl ?_ | refine r_nm_block ?_ | refine r_skip ?_ | refine r_block ?_ | refine r_ret ?_ | refine r_rt_then ?_ | refine r_rt_block ?_ | refine r_exit ?_ | refine r_ex_then ?_ | refine r_ex_here ?_ | refine r_ex_on rfl ?_)
    refine r_v (by exact v_build rfl (by rfl) (by (try simp only [stC, arrC, pC, lC, mC, LL, Nat.reduceAdd, Nat.reduceMul]); rfl)) rfl ?_
    refine r_v (by exact v_makeInterface rfl rfl) rfl ?_
    refine r_sP rfl (s_panic rfl ?_)
    repeat (first | refine r_pn_then ?_ | refine r_pn_block ?_ | refine r_pn_scope ?_)
    exact r_endP (Fle.refl _) (List.Sublist.cons _ (List.Sublist.refl _)) ⟨rfl, rfl, rfl⟩
  · refine r_v (by exact v_move rfl) rfl ?_
    refine r_v (by exact v_arith rfl rfl (by first | exact b_lt (by decide) | exact b_nlt (by decide) | exact b_lt (by omega) | exact b_nlt (by omega) | exact b_lss)) rfl ?_
    refine r_v (by exact v_move rfl) rfl ?_
    first | refine r_guard_n rfl rfl rfl rfl ?_ | (refine r_guard_y rfl rfl ?_ ; refine r_v (by exact v_move rfl) rfl ?_)
    first | refine r_guard_n rfl rfl rfl rfl ?_ | (refine r_guard_y rfl rfl ?_ ; refine r_v (by exact v_conv rfl rfl (by first | exact wr64n (by omega) (by (try simp only [Int.reduceAdd, Int.reduceSub, Int.reduceMul, Int.reduceNeg, Int.add_zero, Int.zero_add, Int.reduceDiv, Int.reduceMod, Int.reduceTDiv, Int.reduceTMod, Int.one_mul, Int.mul_one]); rfl) | exact wr32n (by omega) (by (try simp only [Int.reduceAdd, Int.reduceSub, Int.reduceMul, Int.reduceNeg, Int.add_zero, Int.zero_add, Int.reduceDiv, Int.reduceMod, Int.reduceTDiv, Int.reduceTMod, Int.one_mul, Int.mul_one]); rfl) | rfl)) rfl ?_)
    first | refine r_guard_n rfl rfl rfl rfl ?_ | (refine r_guard_y rfl rfl ?_ ; refine r_v (by exact v_fieldAddr rfl (by (try simp only [Nat.add_assoc, Nat.reduceAdd, Nat.reduceMul, Nat.add_zero, Nat.zero_add, Int.reduceToNat, Int.toNat_natCast, Nat.zero_mul, Nat.mul_one]); rfl)) rfl ?_)
    first | refine r_guard_n rfl rfl rfl rfl ?_ | (refine r_guard_y rfl rfl ?_ ; refine r_v (by first | exact v_load1M rfl (by repeat (first | exact .head | assumption | apply Has.tail)) (by rfl) | exact v_load1F rfl (by assumption) (by first | rfl | exact (Nat.add_zero _).symm) (by rfl) | exact v_load1R rfl (by repeat (first | exact .head | assumption | apply Has.tail)) (by rfl)) rfl ?_)
    first | refine r_guard_n rfl rfl rfl rfl ?_ | (refine r_guard_y rfl rfl ?_ ; refine r_v (by exact v_arith rfl rfl (by first | exact b_ge (by decide) | exact b_nge (by decide) | exact b_ge (by omega) | exact b_nge (by omega) | exact b_geq)) rfl ?_)
    refine r_v (by first | exact v_pickT rfl rfl | exact v_pickF rfl rfl | exact v_pick rfl rfl rfl) rfl ?_
    repeat (first | refine r_nil ?_ | refine r_seq ?_ | refine r_nm_then ?_ | refine r_region ?_ | refine r_cond_t rfl ?_ | refine r_cond_f rfl ?_ | refine r_nm_block ?_ | refine r_skip ?_ | refine r_block ?_ | refine r_ret ?_ | refine r_rt_then ?_ | refine r_rt_block ?_ | refine r_exit ?_ | refine r_ex_then ?_ | refine r_ex_here ?_ | refine r_ex_on rfl ?_)
    refine r_v (by exact v_build rfl (by rfl) (by (try simp only [stC, arrC, pC, lC, mC, LL, Nat.reduceAdd, Nat.reduceMul]); rfl)) rfl ?_
    refine r_v (by exact v_makeInterface rfl rfl) rfl ?_
    refine r_sP rfl (s_panic rfl ?_)
    repeat (first | refine r_pn_then ?_ | refine r_pn_block ?_ | refine r_pn_scope ?_)
    exact r_endP (Fle.refl _) (List.Sublist.cons _ (List.Sublist.refl _)) ⟨rfl, rfl, rfl⟩
end
end Go.Sx.Try
