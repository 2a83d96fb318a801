/- The law's step. -/
import Derived.Test.YtohbfncogdligaaSxEq
import Derived.Test.YtohbfncogdligaaSxJ
namespace Go.Sx.Try
open Go Go.Proofs
set_option linter.unusedSimpArgs false
set_option linter.unusedVariables false
set_option maxRecDepth 4000
attribute [local irreducible] Wc Wl Nm Rt Ex Again Dr At Done Tri Stp RunV
attribute [local irreducible] AtS WlS TriP DoneP DoneD Pn StpP DoneU TriU
section
variable {Aa Ap Av As Aq Al G S : Option Addr} {ca cp cv cs cq cl cG cS : Nat} {id pc a ep x t : Int} {g : List Int} {F : FH} {M : OM}
theorem lstep_err (ha : a ≠ 1) : Tri Try.prog 9 [.agg ⟨pC Aa Ap ca cp⟩, .agg ⟨lC⟩, .agg ⟨stC id pc a ep Av As Aq Al cv cs cq cl⟩, .slice G 1 cG, .slice S 1 cS, I t] F M fun v F' M' =>
    v = .agg ⟨spC id pc a ep Av As Aq Al G S none cv cs cq cl cG cS 0 0 1⟩ ∧ F' = F ∧ M' = M := by
  refine (stepped_spec (R := fun F' _ i2 p2 a2 e2 Av2 As2 Aq2 Al2 G2 S2 E2 cv2 cs2 cq2 cl2 cG2 cS2 nE2 cE2 e => F' = F ∧ i2 = id ∧ p2 = pc ∧ a2 = a ∧ e2 = ep ∧ Av2 = Av ∧ As2 = As ∧ Aq2 = Aq ∧ Al2 = Al ∧ G2 = G ∧ S2 = S ∧ E2 = none ∧ cv2 = cv ∧ cs2 = cs ∧ cq2 = cq ∧ cl2 = cl ∧ cG2 = cG ∧ cS2 = cS ∧ nE2 = 0 ∧ cE2 = 0 ∧ e = 1)
    (fun M1 => (Step_err ha).mono fun v F' M' hl h => ?_)).mono fun v F' M' hl h => ?_
  · obtain ⟨rfl, rfl, rfl⟩ := h
    exact ⟨_, _, _, _, _, _, _, _, _, _, _, _, _, _, _, _, _, _, _, _, rfl, rfl, rfl, rfl, rfl, rfl, rfl, rfl, rfl, rfl, rfl, rfl, rfl, rfl, rfl, rfl, rfl, rfl, rfl, rfl, rfl, rfl, rfl⟩
  · obtain ⟨_, _, _, _, _, _, _, _, _, _, _, _, _, _, _, _, _, _, _, _, rfl, rfl, rfl, rfl, rfl, rfl, rfl, rfl, rfl, rfl, rfl, rfl, rfl, rfl, rfl, rfl, rfl, rfl, rfl, rfl, rfl, rfl, rfl⟩ := h
    exact ⟨rfl, rfl, rfl⟩
theorem lstep_ok {pc2 a2 ep2 x2 : Int} {g2 : List Int} {evs : List (List Value)} (hs : RSt F x Av As Aq Al cv cs cq cl) (hg : RdA RIn F 1 G cG [g]) (hS : RdA RIn F 1 S cS [[]]) (hl : g.length ≤ 1048576)
    (hstep : ∀ (F1 : FH) (M1 : OM) (gv cv : Nat) (As Aq Al : Option Addr) (cs cq cl m gg go : Nat) (sh : Value), Fle F F1 → RdA (Flat w1) F1 1 As cs [] → RdA RIn F1 1 Aq cq [[]] → RdA (Flat w1) F1 1 Al cl [] →
      Tri Try.prog 22 [.pointer (some ⟨m, 0, none⟩), I t] F1 (MM Aa Ap ca cp id pc 1 ep gv As Aq Al cv cs cq cl go gg m sh (.slice none 0 0) x g M1) (StepR Aa Ap ca cp m gg go sh id pc2 a2 ep2 x2 g2 evs F1 M1)) :
    Tri Try.prog 9 [.agg ⟨pC Aa Ap ca cp⟩, .agg ⟨lC⟩, .agg ⟨stC id pc 1 ep Av As Aq Al cv cs cq cl⟩, .slice G 1 cG, .slice S 1 cS, I t] F M fun v F' M' =>
      ∃ Av' As' Aq' Al' G' S' Ae cv' cs' cq' cl' cG' cS' ce, v = .agg ⟨spC id pc2 a2 ep2 Av' As' Aq' Al' G' S' Ae cv' cs' cq' cl' cG' cS' evs.length ce 0⟩ ∧ M' = M ∧
        RSt F' x2 Av' As' Aq' Al' cv' cs' cq' cl' ∧ RdA RIn F' 1 G' cG' [g2] ∧ RdA RIn F' 1 S' cS' [[]] ∧ RdA (Flat fun x => x) F' 9 Ae ce evs := by
  refine (stepped_spec (R := fun F' _ i2 p2 a3 e2 Av2 As2 Aq2 Al2 G2 S2 E2 cv2 cs2 cq2 cl2 cG2 cS2 nE2 cE2 e => i2 = id ∧ p2 = pc2 ∧ a3 = a2 ∧ e2 = ep2 ∧ nE2 = evs.length ∧ e = 0 ∧
      RSt F' x2 Av2 As2 Aq2 Al2 cv2 cs2 cq2 cl2 ∧ RdA RIn F' 1 G2 cG2 [g2] ∧ RdA RIn F' 1 S2 cS2 [[]] ∧ RdA (Flat fun x => x) F' 9 E2 cE2 evs)
    (fun M1 => (Step_ok hs hg hS hl hstep).mono fun v F' M' hl h => ?_)).mono fun v F' M' hl h => ?_
  · obtain ⟨_, rfl, _, _, _, _, _, _, _, _, _, _, _, _, _, _, rfl, h1, h2, h3, h4⟩ := h
    exact ⟨_, _, _, _, _, _, _, _, _, _, _, _, _, _, _, _, _, _, _, _, rfl, rfl, rfl, rfl, rfl, rfl, rfl, rfl, h1, h2, h3, h4⟩
  · obtain ⟨_, _, _, _, _, _, _, _, _, _, _, _, _, _, _, _, _, _, _, _, rfl, rfl, rfl, rfl, rfl, rfl, rfl, rfl, h1, h2, h3, h4⟩ := h
    exact ⟨_, _, _, _, _, _, _, _, _, _, _, _, _, _, rfl, rfl, h1, h2, h3, h4⟩
theorem lstep_idx {pc2 : Int} (hs : RSt F x Av As Aq Al cv cs cq cl) (hg : RdA RIn F 1 G cG [g]) (hS : RdA RIn F 1 S cS [[]]) (hl : g.length ≤ 1048576)
    (hstep : ∀ (F1 : FH) (M1 : OM) (gv cv : Nat) (As Aq Al : Option Addr) (cs cq cl m gg go : Nat) (sh : Value), Fle F F1 → RdA (Flat w1) F1 1 As cs [] → RdA RIn F1 1 Aq cq [[]] → RdA (Flat w1) F1 1 Al cl [] →
      Tri Try.prog 22 [.pointer (some ⟨m, 0, none⟩), I t] F1 (MM Aa Ap ca cp id pc 1 ep gv As Aq Al cv cs cq cl go gg m sh (.slice none 0 0) x g M1) (fun v F' M' => v = I 70 ∧ F' = F1 ∧ M' = MM Aa Ap ca cp id pc2 1 ep gv As Aq Al cv cs cq cl go gg m sh (.slice none 0 0) x g M1)) :
    Tri Try.prog 9 [.agg ⟨pC Aa Ap ca cp⟩, .agg ⟨lC⟩, .agg ⟨stC id pc 1 ep Av As Aq Al cv cs cq cl⟩, .slice G 1 cG, .slice S 1 cS, I t] F M fun v F' M' =>
      v = .agg ⟨spC id pc 1 ep Av As Aq Al G S none cv cs cq cl cG cS 0 0 70⟩ ∧ M' = M := by
  refine (stepped_spec (R := fun F' _ i2 p2 a2 e2 Av2 As2 Aq2 Al2 G2 S2 E2 cv2 cs2 cq2 cl2 cG2 cS2 nE2 cE2 e => i2 = id ∧ p2 = pc ∧ a2 = 1 ∧ e2 = ep ∧ Av2 = Av ∧ As2 = As ∧ Aq2 = Aq ∧ Al2 = Al ∧ G2 = G ∧ S2 = S ∧ E2 = none ∧ cv2 = cv ∧ cs2 = cs ∧ cq2 = cq ∧ cl2 = cl ∧ cG2 = cG ∧ cS2 = cS ∧ nE2 = 0 ∧ cE2 = 0 ∧ e = 70)
    (fun M1 => (Step_idx hs hg hS hl hstep).mono fun v F' M' hl h => ?_)).mono fun v F' M' hl h => ?_
  · obtain ⟨_, rfl, rfl⟩ := h
    exact ⟨_, _, _, _, _, _, _, _, _, _, _, _, _, _, _, _, _, _, _, _, rfl, rfl, rfl, rfl, rfl, rfl, rfl, rfl, rfl, rfl, rfl, rfl, rfl, rfl, rfl, rfl, rfl, rfl, rfl, rfl, rfl, rfl⟩
  · obtain ⟨_, _, _, _, _, _, _, _, _, _, _, _, _, _, _, _, _, _, _, _, rfl, rfl, rfl, rfl, rfl, rfl, rfl, rfl, rfl, rfl, rfl, rfl, rfl, rfl, rfl, rfl, rfl, rfl, rfl, rfl, rfl, rfl⟩ := h
    exact ⟨rfl, rfl⟩
end
end Go.Sx.Try
