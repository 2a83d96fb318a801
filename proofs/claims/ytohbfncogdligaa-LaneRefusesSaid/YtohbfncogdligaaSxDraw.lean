/- Regions that draw their order: operations that only look are taken first, the others where they are ready. After Derived/Orders.lean's 'wpAny_take', with a class of worlds in the place of all worlds. -/
import Derived.Test.YtohbfncogdligaaSxOps
namespace Go.Sx
open Go

/-- What a panic meets does not hang on the slots. -/
def PI (Q : Exit → Act → World → Prop) (d : Nat) : Prop := ∀ c a v w, Q (.panic c) (a.put (some d) v) w → Q (.panic c) a w
theorem PI.then {Q : Exit → Act → World → Prop} {K : Act → World → Prop} {d : Nat} (h : PI Q d) : PI (Exit.then K Q) d := fun c a v w hq => h c a v w hq
theorem PI.block {Q : Exit → Act → World → Prop} {id d : Nat} (h : PI Q d) : PI (Exit.inBlock id Q) d := fun c a v w hq => h c a v w hq
theorem PI.scope {Q : Exit → Act → World → Prop} {d : Nat} (h : PI Q d) : PI (Exit.noGoto Q) d := fun c a v w hq => h c a v w hq
theorem PI.done {P : Program} {w0 : World} {fn : Func} {F : FH} {R : Value → FH → OM → Prop} {d : Nat} : PI (Done P w0 fn F R) d := by
  intro c a v w hq
  obtain ⟨_, v, F', M', he, _⟩ := hq
  cases he

section
variable {P : Program} {ops : Array Oper} {Q : Exit → Act → World → Prop} {C : Array Bool → World → Prop} {Ci : World → Prop}

/-- what is listed has all that it comes after -/
def Clo (ops : Array Oper) (listed : Array Bool) : Prop :=
  ∀ j o, ops[j]? = some o → listed.getD j false = true → ∀ e ∈ o.after, Region.binds .any e = true → listed.getD e.on false = true
theorem Clo.step {listed : Array Bool} (h : Clo ops listed) {j : Nat} (hj : j ∈ Region.ready .any ops listed) : Clo ops (listed.setIfInBounds j true) := by
  intro k o ho hk e he hb
  by_cases hkj : j = k
  · subst hkj
    obtain ⟨_, o', ho', hall⟩ := mem_ready.1 hj
    rw [ho] at ho'
    cases ho'
    exact getD_set_true (hall e he hb)
  · rw [getD_set_ne false hkj] at hk
    exact getD_set_true (h k o ho hk e he hb)
theorem Clo.start (n : Nat) : Clo ops (Array.replicate n false) := by
  intro j o _ hj
  simp [Array.getElem?_replicate] at hj
  split at hj <;> simp_all

def AnyC (P : Program) (ops : Array Oper) (Q : Exit → Act → World → Prop) (C : Array Bool → World → Prop) : Nat → Array Bool → Act → World → Prop
  | 0, listed, a, w => Region.ready .any ops listed = [] ∧ Q .normal a w
  | fuel + 1, listed, a, w =>
    (Region.ready .any ops listed = [] → Q .normal a w) ∧
    ∀ i ∈ Region.ready .any ops listed, wpOp P ops Q i (fun a' w' => C (listed.setIfInBounds i true) w' ∧ AnyC P ops Q C fuel (listed.setIfInBounds i true) a' w') a w

theorem AnyC.any : ∀ (fuel : Nat) (listed : Array Bool) (a : Act) (w : World), AnyC P ops Q C fuel listed a w → wpAny P .any ops Q fuel listed a w := by
  intro fuel
  induction fuel with
  | zero => intro listed a w h; exact h
  | succ fuel ih => intro listed a w h; exact ⟨h.1, fun i hi => wpOp_mono (fun a' w' h' => ih _ _ _ h'.2) (h.2 i hi)⟩
theorem AnyC.mono {C' : Array Bool → World → Prop} (I : Array Bool → Prop) (hI : ∀ l i, I l → I (l.setIfInBounds i true)) (hc : ∀ l w, I l → C l w → C' l w) : ∀ (fuel : Nat) (listed : Array Bool) (a : Act) (w : World), I listed → AnyC P ops Q C fuel listed a w → AnyC P ops Q C' fuel listed a w := by
  intro fuel
  induction fuel with
  | zero => intro listed a w _ h; exact h
  | succ fuel ih => intro listed a w hl h; exact ⟨h.1, fun i hi => wpOp_mono (fun a' w' h' => ⟨hc _ _ (hI _ i hl) h'.1, ih _ _ _ (hI _ i hl) h'.2⟩) (h.2 i hi)⟩

/-- The operation yields v in every world of the class. -/
def YieldsC (P : Program) (ops : Array Oper) (Ci : World → Prop) (o : Oper) (v : Value) (a : Act) : Prop :=
  (Region.wanted o (yielded ops a.tmps) = true ∧ ∀ w, Ci w → (execOp a.eval o).run P w = .ok (.value v) w) ∨
  (Region.wanted o (yielded ops a.tmps) = false ∧ v = undef)
theorem YieldsC.wpOp {i : Nat} {o : Oper} {v : Value} {a : Act} (hi : ops[i]? = some o) (hy : YieldsC P ops Ci o v a)
    {K : Act → World → Prop} {w : World} (hC : Ci w) (h : K (a.put o.dst v) w) : wpOp P ops Q i K a w := by
  unfold Go.wpOp
  simp only [hi]
  rcases hy with ⟨hw, hv⟩ | ⟨hw, rfl⟩
  · simp only [hw, if_true, Oper.wp, hv w hC, Oper.upon]; exact .inl h
  · simp only [hw, Bool.false_eq_true, if_false]; exact h
theorem YieldsC.of_same {o : Oper} {v : Value} {a a' : Act} (hy : YieldsC P ops Ci o v a) (he : execOp a'.eval o = execOp a.eval o)
    (hw : Region.wanted o (yielded ops a'.tmps) = Region.wanted o (yielded ops a.tmps)) : YieldsC P ops Ci o v a' := by
  unfold YieldsC at *
  rw [he, hw]
  exact hy
theorem wpOp_putC {Cw : World → Prop} {j : Nat} {oi oj : Oper} {v : Value} (hj : ops[j]? = some oj) (hap : oi.apart ops oj = true)
    (hsi : ∀ cs b, oi.op ≠ .select cs b) (hsj : ∀ cs b, oj.op ≠ .select cs b)
    (hQ : ∀ c a v w, Q (.panic c) (a.put oi.dst v) w → Q (.panic c) a w) {K : Act → World → Prop} {a : Act} {w : World}
    (hy : YieldsC P ops Ci oi v a) (h : wpOp P ops Q j (fun a' w' => Cw w' ∧ K a' w') (a.put oi.dst v) w) :
    wpOp P ops Q j (fun a' w' => Cw w' ∧ YieldsC P ops Ci oi v a' ∧ K (a'.put oi.dst v) w') a w := by
  obtain ⟨h1, h2, h3⟩ := Oper.apart_spec hap
  have keep : ∀ (a : Act), YieldsC P ops Ci oi v a → ∀ u, YieldsC P ops Ci oi v (a.put oj.dst u) := fun a hy u =>
    hy.of_same (execOp_put oi hsi a oj.dst u h3) (wanted_put oi a oj.dst u h3)
  have keepD : ∀ d, YieldsC P ops Ci oi v { a with defers := d :: a.defers } := fun d => hy.of_same rfl rfl
  have pd : ∀ (a : Act) (dst : Option Tmp) (u : Value), (a.put dst u).defers = a.defers := fun a dst u => by cases dst <;> rfl
  unfold wpOp at *
  simp only [hj] at *
  rw [wanted_put oj a oi.dst v h1] at h
  split
  · rename_i hw
    simp only [hw, if_true] at h
    rcases h with h | ⟨hasks, hlets⟩
    case inr => exact .inr ⟨by unfold Oper.asks at *; rw [execOp_put oj hsj a oi.dst v h1] at hasks; exact hasks, hlets⟩
    refine .inl ?_
    unfold Oper.wp at *
    rw [execOp_put oj hsj a oi.dst v h1] at h
    generalize (execOp a.eval oj).run P w = r at *
    cases r with
    | ok n w' =>
      cases n <;> simp only [Oper.upon] at h ⊢
      case value u => exact ⟨h.1, keep a hy u, by rw [← Act.put_comm a v u h2]; exact h.2⟩
      case skip => exact ⟨h.1, keep a hy _, by rw [← Act.put_comm a v undef h2]; exact h.2⟩
      case defer d =>
        refine ⟨h.1, keep _ (keepD d) _, ?_⟩
        rw [← Act.put_comm _ v undef h2, ← Act.put_defers]
        exact h.2
      case enter f args =>
        refine Calls.mono h fun e w'' he => ?_
        cases e with
        | returned u => exact ⟨he.1, keep a hy u, by rw [← Act.put_comm a v u h2]; exact he.2⟩
        | panicked c => exact hQ _ _ _ _ he
        | outgrown => exact he
      case row row args => exact Rows.mono h fun u w'' he => ⟨he.1, keep a hy u, by rw [← Act.put_comm a v u h2]; exact he.2⟩
    | halt x w' =>
      cases x <;> simp only [Oper.upon] at h ⊢
      case panic u => exact hQ _ _ _ _ h
  · rename_i hw
    simp only [hw] at h
    exact ⟨h.1, keep a hy _, by rw [← Act.put_comm a v undef h2]; exact h.2⟩

theorem AnyC.first {i : Nat} {oi : Oper} {v : Value} (hi : ops[i]? = some oi) (hsel : ∀ (j : Nat) (o : Oper) cs b, ops[j]? = some o → o.op ≠ .select cs b)
    (hQ : ∀ c a v w, Q (.panic c) (a.put oi.dst v) w → Q (.panic c) a w) (hCi : ∀ l w, Clo ops l → l.getD i true = false → C l w → Ci w) (hCm : ∀ l w, C (l.setIfInBounds i true) w ↔ C l w) :
    ∀ (fuel : Nat) (listed : Array Bool) (a : Act) (w : World), Clo ops listed → C listed w →
      (∀ j oj, ops[j]? = some oj → j ≠ i → listed.getD j true = false → (∀ e ∈ oj.after, Region.binds .any e = true → e.on ≠ i) → oi.apart ops oj = true) →
      i ∈ Region.ready .any ops listed → YieldsC P ops Ci oi v a →
      AnyC P ops Q C fuel (listed.setIfInBounds i true) (a.put oi.dst v) w → AnyC P ops Q C (fuel + 1) listed a w := by
  intro fuel
  induction fuel with
  | zero =>
    intro listed a w hclo hC _ hr hy H
    refine ⟨fun h => (by rw [h] at hr; cases hr), fun j hj => ?_⟩
    by_cases hji : j = i
    · subst hji; exact hy.wpOp hi (hCi _ _ hclo (mem_ready.1 hr).1 hC) ⟨(hCm _ _).2 hC, H⟩
    · have := ready_mono hj hji
      rw [H.1] at this
      cases this
  | succ fuel ih =>
    intro listed a w hclo hC hfree hr hy H
    refine ⟨fun h => (by rw [h] at hr; cases hr), fun j hj => ?_⟩
    by_cases hji : j = i
    · subst hji; exact hy.wpOp hi (hCi _ _ hclo (mem_ready.1 hr).1 hC) ⟨(hCm _ _).2 hC, H⟩
    · have h1 := H.2 j (ready_mono hj hji)
      obtain ⟨hjun, oj, hoj, hall⟩ := mem_ready.1 hj
      have hnot : ∀ e ∈ oj.after, Region.binds .any e = true → e.on ≠ i := fun e he hb heq => by
        have h1 := hall e he hb
        have h0 := (mem_ready.1 hr).1
        rw [heq] at h1
        rcases Nat.lt_or_ge i listed.size with h' | h'
        · simp [h'] at h0 h1; rw [h0] at h1; cases h1
        · simp [Array.getElem?_eq_none h'] at h1
      have h2 := wpOp_putC hoj (hfree j oj hoj hji hjun hnot) (fun cs b => hsel i oi cs b hi) (fun cs b => hsel j oj cs b hoj) hQ hy h1
      have hfree' : ∀ k ok, ops[k]? = some ok → k ≠ i → (listed.setIfInBounds j true).getD k true = false →
          (∀ e ∈ ok.after, Region.binds .any e = true → e.on ≠ i) → oi.apart ops ok = true := fun k ok hk hki hun hno => by
        refine hfree k ok hk hki ?_ hno
        by_cases hjk : j = k
        · subst hjk; exact hjun
        · rw [getD_set_ne true hjk] at hun; exact hun
      refine wpOp_mono (fun a' w' h3 => ?_) h2
      obtain ⟨h4, h5, h6⟩ := h3
      rw [Array.setIfInBounds_comm _ _ (Ne.symm hji)] at h4 h6
      have h7 := (hCm _ _).1 h4
      exact ⟨h7, ih _ _ _ (hclo.step hj) h7 hfree' (ready_mono hr (Ne.symm hji)) h5 h6⟩

/-! in symbols -/
variable {w0 : World} {n : Nat} {L : SL} {D : List Deferred} {F Fc : FH} {M Mc : OM}

/-- the class: before the store s (if one is told), the worlds in which Fc and Mc stand -/
def CS (w0 : World) (Fc : FH) (Mc M2 : OM) : Option Nat → Array Bool → World → Prop
  | none, _, w => Sat w0 Fc Mc w
  | some s, l, w => (l.getD s false = true ∧ Sat w0 Fc M2 w) ∨ Sat w0 Fc Mc w
/-- s comes behind i -/
def behind (ops : Array Oper) (i : Nat) : Nat → Nat → Bool
  | 0, _ => false
  | f + 1, s => match ops[s]? with
    | none => false
    | some o => o.after.any fun e => Region.binds .any e && (Nat.beq e.on i || behind ops i f e.on)
theorem behind_spec {i : Nat} {l : Array Bool} (hc : Clo ops l) : ∀ f s, behind ops i f s = true → l.getD s false = true → l.getD i false = true := by
  intro f
  induction f with
  | zero => intro s h; cases h
  | succ f ih =>
    intro s h hs
    simp only [behind] at h
    split at h
    · cases h
    · rename_i o ho
      obtain ⟨k, hk, h⟩ := Array.any_eq_true.1 h
      simp only [Bool.and_eq_true, Bool.or_eq_true] at h
      have hm := hc s o ho hs _ (Array.getElem_mem hk) h.1
      rcases h.2 with h | h
      · rw [← Nat.eq_of_beq_eq_true h]; exact hm
      · exact ih _ h hm
def okS (ops : Array Oper) (i : Nat) : Option Nat → Bool
  | none => true
  | some s => !(Nat.beq s i) && behind ops i ops.size s
theorem okS_ne {i s : Nat} (h : okS ops i (some s) = true) : s ≠ i := by
  simp only [okS, Bool.and_eq_true] at h
  intro e; subst e; simp at h
theorem CS.ins {i : Nat} {s : Option Nat} {M2 : OM} (h : ∀ k, s = some k → k ≠ i) (l : Array Bool) (w : World) : CS w0 Fc Mc M2 s (l.setIfInBounds i true) w ↔ CS w0 Fc Mc M2 s l w := by
  cases s with
  | none => exact Iff.rfl
  | some s => simp only [CS]; rw [getD_set_ne false (Ne.symm (h _ rfl))]
theorem CS.sat {i : Nat} {s : Option Nat} {M2 : OM} (h : okS ops i s = true) (l : Array Bool) (w : World) (hc : Clo ops l) (hi : l.getD i true = false) (hC : CS w0 Fc Mc M2 s l w) : Sat w0 Fc Mc w := by
  cases s with
  | none => exact hC
  | some s =>
    rcases hC with ⟨hC, _⟩ | hC
    · simp only [okS, Bool.and_eq_true] at h
      have := behind_spec hc _ _ h.2 hC
      rcases Nat.lt_or_ge i l.size with h' | h'
      · simp [h'] at hi this; rw [hi] at this; cases this
      · simp [Array.getElem?_eq_none h'] at hi
    · exact hC
theorem CS.of {s : Option Nat} {M2 : OM} {l : Array Bool} {w : World} (h : Sat w0 Fc Mc w) : CS w0 Fc Mc M2 s l w := by
  cases s with
  | none => exact h
  | some s => exact .inr h

def Dr (P : Program) (w0 : World) (n : Nat) (ops : Array Oper) (Q : Exit → Act → World → Prop) (D : List Deferred) (fuel : Nat) (listed : Array Bool) (s : Option Nat) (Fc : FH) (Mc M2 : OM) (L : SL) (F : FH) (M : OM) : Prop :=
  Clo ops listed → At w0 n (fun a w => AnyC P ops Q (CS w0 Fc Mc M2 s) fuel listed a w) L D F M

theorem Sat.sub {w : World} (hs : Sat w0 F M w) (hl : Fle Fc F) (hm : Mc.Sublist M) : Sat w0 Fc Mc w := by
  refine ⟨hs.os, hs.tape, hs.output, hs.size, fun b o h => hs.fro b o (hl b o h), fun c hc => hs.own c (hm.subset hc), fun c hc b hb => ?_, ?_⟩
  · cases h : Fc b with
    | none => rfl
    | some o =>
      have := hs.apart c (hm.subset hc) b hb
      rw [hl b o h] at this
      cases this
  · exact List.Sublist.nodup (by
      have : ∀ {l1 l2 : OM}, l1.Sublist l2 → (l1.flatMap Ch.foot).Sublist (l2.flatMap Ch.foot) := by
        intro l1 l2 h
        induction h with
        | slnil => exact List.Sublist.refl _
        | cons a _ ih => simp only [List.flatMap_cons]; exact List.Sublist.trans ih (List.sublist_append_right _ _)
        | cons_cons a _ ih => simp only [List.flatMap_cons]; exact List.Sublist.append (List.Sublist.refl _) ih
      exact this hm) hs.nd

/-- The region begins: Mc is what no operation of the region writes before the store s. -/
theorem r_draw {id : Nat} {l : List Oper} (s : Option Nat) {Mc M2 : OM} (_hm : Mc.Sublist M) (_h2 : M2.Sublist Mc) (hp : P.follows .mixedOrders = true) (h : Dr P w0 n l.toArray Q D l.length (Array.replicate l.length false) s F Mc M2 L F M) : At w0 n (Wc P (.region id l.toArray true) Q) L D F M := by
  intro a w hf hs
  refine wp_region_any hp ?_
  have := AnyC.any _ _ _ _ (h (Clo.start _) a _ hf hs.drew)
  simpa using this
/-- what may be asked once of the whole region, before it begins -/
def dchk (ops : Array Oper) : Bool := Region.noSelect ops

section
variable {s : Option Nat} {M2 : OM}
theorem rdy {i : Nat} {listed : Array Bool} (h : (Region.ready .any ops listed).contains i = true) : i ∈ Region.ready .any ops listed := by simpa using h
theorem d_val (i : Nat) {fuel : Nat} {listed : Array Bool} {d : Nat} {op : Op} {ty : TypeId} {ps : String} {af : Array Edge} {v : Value} (hi : ops[i]? = some ⟨some d, op, ty, ps, af, none⟩)
    (hc : (dchk ops && Region.free .any ops listed i && (Region.ready .any ops listed).contains i && okS ops i s) = true) (hQ : PI Q d) (hl : Fle Fc F) (hm : Mc.Sublist M)
    (hv : RunV P w0 n L D Fc Mc op ty v) (hlt : Nat.blt d n = true) (k : Dr P w0 n ops Q D fuel (listed.setIfInBounds i true) s Fc Mc M2 ((d, v) :: L) F M) :
    Dr P w0 n ops Q D (fuel + 1) listed s Fc Mc M2 L F M := by
  intro hclo a w hf hs
  simp only [Bool.and_eq_true] at hc
  obtain ⟨⟨⟨h1, h2⟩, h3⟩, h4⟩ := hc
  refine AnyC.first hi (Region.noSelect_spec h1) hQ (CS.sat h4) (CS.ins (fun k e => by subst e; exact okS_ne h4)) fuel listed a w hclo (CS.of (hs.sub hl hm)) (Region.free_spec hi h2) (rdy h3) ?_ (k (hclo.step (rdy h3)) _ _ (hf.put (by simpa [Nat.blt_eq] using hlt) v) hs)
  exact .inl ⟨by simp [Region.wanted], fun w' hC => hv a w' hf hC _ _ _ _⟩
/-- one that does not come before the store: it sees M2 only -/
theorem d_valS (i : Nat) {st : Nat} {fuel : Nat} {listed : Array Bool} {d : Nat} {op : Op} {ty : TypeId} {ps : String} {af : Array Edge} {v : Value} (hi : ops[i]? = some ⟨some d, op, ty, ps, af, none⟩)
    (hc : (dchk ops && Region.free .any ops listed i && (Region.ready .any ops listed).contains i && !(Nat.beq st i)) = true) (hQ : PI Q d) (hl : Fle Fc F) (hm : Mc.Sublist M) (h2 : M2.Sublist Mc)
    (hv : RunV P w0 n L D Fc M2 op ty v) (hlt : Nat.blt d n = true) (k : Dr P w0 n ops Q D fuel (listed.setIfInBounds i true) (some st) Fc Mc M2 ((d, v) :: L) F M) :
    Dr P w0 n ops Q D (fuel + 1) listed (some st) Fc Mc M2 L F M := by
  intro hclo a w hf hs
  simp only [Bool.and_eq_true] at hc
  obtain ⟨⟨⟨h1, hfr⟩, h3⟩, h4⟩ := hc
  refine AnyC.first (Ci := Sat w0 Fc M2) hi (Region.noSelect_spec h1) hQ (fun l w _ _ hC => hC.elim (·.2) fun h => h.sub (Fle.refl _) h2) (CS.ins (fun k e => by cases e; intro e; subst e; simp at h4)) fuel listed a w hclo (CS.of (hs.sub hl hm)) (Region.free_spec hi hfr) (rdy h3) ?_ (k (hclo.step (rdy h3)) _ _ (hf.put (by simpa [Nat.blt_eq] using hlt) v) hs)
  exact .inl ⟨by simp [Region.wanted], fun w' hC => hv a w' hf hC _ _ _ _⟩
/-- with a guard that says yes -/
theorem d_val_y (i : Nat) {fuel : Nat} {listed : Array Bool} {d : Nat} {op : Op} {ty : TypeId} {ps : String} {af : Array Edge} {v : Value} {j dj : Nat} {b : Bool} (hi : ops[i]? = some ⟨some d, op, ty, ps, af, some (j, b)⟩)
    (hc : (dchk ops && Region.free .any ops listed i && (Region.ready .any ops listed).contains i && okS ops i s) = true) (hQ : PI Q d) (hl : Fle Fc F) (hm : Mc.Sublist M)
    (hj : (ops[j]?).bind (·.dst) = some dj) (hg : lk L dj = some (.bool b))
    (hv : RunV P w0 n L D Fc Mc op ty v) (hlt : Nat.blt d n = true) (k : Dr P w0 n ops Q D fuel (listed.setIfInBounds i true) s Fc Mc M2 ((d, v) :: L) F M) :
    Dr P w0 n ops Q D (fuel + 1) listed s Fc Mc M2 L F M := by
  intro hclo a w hf hs
  simp only [Bool.and_eq_true] at hc
  obtain ⟨⟨⟨h1, h2⟩, h3⟩, h4⟩ := hc
  refine AnyC.first hi (Region.noSelect_spec h1) hQ (CS.sat h4) (CS.ins (fun k e => by subst e; exact okS_ne h4)) fuel listed a w hclo (CS.of (hs.sub hl hm)) (Region.free_spec hi h2) (rdy h3) ?_ (k (hclo.step (rdy h3)) _ _ (hf.put (by simpa [Nat.blt_eq] using hlt) v) hs)
  have hy : yielded ops a.tmps j = some b := by unfold yielded; rw [hj]; simp [hf.get dj _ hg]
  exact .inl ⟨by simp [Region.wanted, hy], fun w' hC => hv a w' hf hC _ _ _ _⟩
/-- with a guard that says no -/
theorem d_val_n (i : Nat) {fuel : Nat} {listed : Array Bool} {d : Nat} {op : Op} {ty : TypeId} {ps : String} {af : Array Edge} {j dj : Nat} {b c : Bool} (hi : ops[i]? = some ⟨some d, op, ty, ps, af, some (j, b)⟩)
    (hc : (dchk ops && Region.free .any ops listed i && (Region.ready .any ops listed).contains i && okS ops i s) = true) (hQ : PI Q d) (hl : Fle Fc F) (hm : Mc.Sublist M)
    (hj : (ops[j]?).bind (·.dst) = some dj) (hg : lk L dj = some (.bool c)) (hne : (c == b) = false)
    (hlt : Nat.blt d n = true) (k : Dr P w0 n ops Q D fuel (listed.setIfInBounds i true) s Fc Mc M2 ((d, undef) :: L) F M) :
    Dr P w0 n ops Q D (fuel + 1) listed s Fc Mc M2 L F M := by
  intro hclo a w hf hs
  simp only [Bool.and_eq_true] at hc
  obtain ⟨⟨⟨h1, h2⟩, h3⟩, h4⟩ := hc
  refine AnyC.first hi (Region.noSelect_spec h1) hQ (CS.sat h4) (CS.ins (fun k e => by subst e; exact okS_ne h4)) fuel listed a w hclo (CS.of (hs.sub hl hm)) (Region.free_spec hi h2) (rdy h3) ?_ (k (hclo.step (rdy h3)) _ _ (hf.put (by simpa [Nat.blt_eq] using hlt) undef) hs)
  have hy : yielded ops a.tmps j = some c := by unfold yielded; rw [hj]; simp [hf.get dj _ hg]
  refine .inr ⟨?_, rfl⟩
  simp only [Region.wanted, hy]
  cases b <;> cases c <;> simp_all
/-- The one operation that is ready. -/
theorem d_one (i : Nat) {fuel : Nat} {listed : Array Bool} {oi : Oper} (hi : ops[i]? = some oi) (hr : (Region.ready .any ops listed == [i]) = true) (hg : oi.guard = none)
    (hl : Fle Fc F)
    (h : Stp P w0 n L D F M oi fun L' F' M' => Fle F F' ∧ Mc.Sublist M' ∧ Dr P w0 n ops Q D fuel (listed.setIfInBounds i true) s Fc Mc M2 L' F' M') : Dr P w0 n ops Q D (fuel + 1) listed s Fc Mc M2 L F M := by
  intro hclo a w hf hs
  have hr' : Region.ready .any ops listed = [i] := by simpa using hr
  refine ⟨fun h0 => (by rw [hr'] at h0; cases h0), fun j hj => ?_⟩
  rw [hr'] at hj
  obtain rfl : j = i := by simpa using hj
  have hmem : j ∈ Region.ready .any ops listed := by rw [hr']; simp
  unfold wpOp
  simp only [hi, Region.wanted, hg, if_true]
  refine .inl (h a w hf hs _ _ fun L' F' M' hk a' w' hf' hs' => ⟨CS.of (hs'.sub (hl.trans hk.1) hk.2.1), hk.2.2 (hclo.step hmem) a' w' hf' hs'⟩)
/-- The store that the class waits for: behind it another class stands. -/
theorem d_store (i : Nat) (s' : Option Nat) (Mc' : OM) {M2' : OM} {fuel : Nat} {listed : Array Bool} {oi : Oper} (hi : ops[i]? = some oi) (hr : (Region.ready .any ops listed == [i]) = true) (hg : oi.guard = none) (hsz : Nat.blt i listed.size = true) (hl : Fle Fc F) (h2' : s'.isSome = true → M2.Sublist M2')
    (h : Stp P w0 n L D F M oi fun L' F' M' => Fle F F' ∧ Mc'.Sublist M' ∧ M2.Sublist Mc' ∧ Dr P w0 n ops Q D fuel (listed.setIfInBounds i true) s' F' Mc' M2' L' F' M') : Dr P w0 n ops Q D (fuel + 1) listed (some i) Fc Mc M2 L F M := by
  intro hclo a w hf hs
  have hr' : Region.ready .any ops listed = [i] := by simpa using hr
  refine ⟨fun h0 => (by rw [hr'] at h0; cases h0), fun j hj => ?_⟩
  rw [hr'] at hj
  obtain rfl : j = i := by simpa using hj
  have hmem : j ∈ Region.ready .any ops listed := by rw [hr']; simp
  have hset : (listed.setIfInBounds j true).getD j false = true := by
    have : j < listed.size := by simpa [Nat.blt_eq] using hsz
    simp [this]
  unfold wpOp
  simp only [hi, Region.wanted, hg, if_true]
  refine .inl (h a w hf hs _ _ fun L' F' M' hk a' w' hf' hs' => ⟨.inl ⟨hset, hs'.sub (hl.trans hk.1) (hk.2.2.1.trans hk.2.1)⟩, ?_⟩)
  refine AnyC.mono (fun l => l.getD j false = true) (fun l i h => getD_set_true h) (fun l w h hC => .inl ⟨h, ?_⟩) _ _ _ _ hset (hk.2.2.2 (hclo.step hmem) a' w' hf' hs')
  cases s' with
  | none => exact Sat.sub hC (hl.trans hk.1) hk.2.2.1
  | some k => exact hC.elim (fun h => h.2.sub (hl.trans hk.1) (h2' rfl)) fun h => h.sub (hl.trans hk.1) hk.2.2.1
/-- Two operations that are ready. -/
theorem d_two (i j : Nat) {fuel : Nat} {listed : Array Bool} {oi oj : Oper} (hi : ops[i]? = some oi) (hj : ops[j]? = some oj) (hr : (Region.ready .any ops listed == [i, j]) = true) (hg : oi.guard = none) (hg2 : oj.guard = none)
    (hl : Fle Fc F)
    (h : Stp P w0 n L D F M oi fun L' F' M' => Fle F F' ∧ Mc.Sublist M' ∧ Dr P w0 n ops Q D fuel (listed.setIfInBounds i true) s Fc Mc M2 L' F' M')
    (h2 : Stp P w0 n L D F M oj fun L' F' M' => Fle F F' ∧ Mc.Sublist M' ∧ Dr P w0 n ops Q D fuel (listed.setIfInBounds j true) s Fc Mc M2 L' F' M') : Dr P w0 n ops Q D (fuel + 1) listed s Fc Mc M2 L F M := by
  intro hclo a w hf hs
  have hr' : Region.ready .any ops listed = [i, j] := by simpa using hr
  refine ⟨fun h0 => (by rw [hr'] at h0; cases h0), fun k hk => ?_⟩
  have hmem := hk
  rw [hr'] at hk
  rcases List.mem_cons.1 hk with rfl | hk
  · unfold wpOp
    simp only [hi, Region.wanted, hg, if_true]
    exact .inl (h a w hf hs _ _ fun L' F' M' hk a' w' hf' hs' => ⟨CS.of (hs'.sub (hl.trans hk.1) hk.2.1), hk.2.2 (hclo.step hmem) a' w' hf' hs'⟩)
  · obtain rfl : k = j := by simpa using hk
    unfold wpOp
    simp only [hj, Region.wanted, hg2, if_true]
    exact .inl (h2 a w hf hs _ _ fun L' F' M' hk a' w' hf' hs' => ⟨CS.of (hs'.sub (hl.trans hk.1) hk.2.1), hk.2.2 (hclo.step hmem) a' w' hf' hs'⟩)
/-- Several operations that are ready. -/
theorem d_many (is : List Nat) (hne : is ≠ []) {fuel : Nat} {listed : Array Bool} (hr : Region.ready .any ops listed = is) (hl : Fle Fc F)
    (h : ∀ i ∈ is, ∃ oi, ops[i]? = some oi ∧ oi.guard = none ∧ Stp P w0 n L D F M oi fun L' F' M' => Fle F F' ∧ Mc.Sublist M' ∧ Dr P w0 n ops Q D fuel (listed.setIfInBounds i true) s Fc Mc M2 L' F' M') : Dr P w0 n ops Q D (fuel + 1) listed s Fc Mc M2 L F M := by
  subst hr
  intro hclo a w hf hs
  refine ⟨fun h0 => absurd h0 hne, fun k hk => ?_⟩
  · obtain ⟨oi, hi, hg, h⟩ := h k hk
    unfold wpOp
    simp only [hi, Region.wanted, hg, if_true]
    exact .inl (h a w hf hs _ _ fun L' F' M' hq a' w' hf' hs' => ⟨CS.of (hs'.sub (hl.trans hq.1) hq.2.1), hq.2.2 (hclo.step hk) a' w' hf' hs'⟩)
theorem d_three (i j k : Nat) {fuel : Nat} {listed : Array Bool} {oi oj ok : Oper} (hi : ops[i]? = some oi) (hj : ops[j]? = some oj) (hk : ops[k]? = some ok) (hr : (Region.ready .any ops listed == [i, j, k]) = true) (hg : oi.guard = none) (hg2 : oj.guard = none) (hg3 : ok.guard = none)
    (hl : Fle Fc F)
    (h : Stp P w0 n L D F M oi fun L' F' M' => Fle F F' ∧ Mc.Sublist M' ∧ Dr P w0 n ops Q D fuel (listed.setIfInBounds i true) s Fc Mc M2 L' F' M')
    (h2 : Stp P w0 n L D F M oj fun L' F' M' => Fle F F' ∧ Mc.Sublist M' ∧ Dr P w0 n ops Q D fuel (listed.setIfInBounds j true) s Fc Mc M2 L' F' M')
    (h3 : Stp P w0 n L D F M ok fun L' F' M' => Fle F F' ∧ Mc.Sublist M' ∧ Dr P w0 n ops Q D fuel (listed.setIfInBounds k true) s Fc Mc M2 L' F' M') : Dr P w0 n ops Q D (fuel + 1) listed s Fc Mc M2 L F M := by
  refine d_many [i, j, k] (by simp) (by simpa using hr) hl fun x hx => ?_
  simp only [List.mem_cons, List.not_mem_nil, or_false] at hx
  rcases hx with rfl | rfl | rfl
  · exact ⟨_, hi, hg, h⟩
  · exact ⟨_, hj, hg2, h2⟩
  · exact ⟨_, hk, hg3, h3⟩
theorem d_four (i j k l : Nat) {fuel : Nat} {listed : Array Bool} {oi oj ok ol : Oper} (hi : ops[i]? = some oi) (hj : ops[j]? = some oj) (hk : ops[k]? = some ok) (hl4 : ops[l]? = some ol) (hr : (Region.ready .any ops listed == [i, j, k, l]) = true) (hg : oi.guard = none) (hg2 : oj.guard = none) (hg3 : ok.guard = none) (hg4 : ol.guard = none)
    (hl : Fle Fc F)
    (h : Stp P w0 n L D F M oi fun L' F' M' => Fle F F' ∧ Mc.Sublist M' ∧ Dr P w0 n ops Q D fuel (listed.setIfInBounds i true) s Fc Mc M2 L' F' M')
    (h2 : Stp P w0 n L D F M oj fun L' F' M' => Fle F F' ∧ Mc.Sublist M' ∧ Dr P w0 n ops Q D fuel (listed.setIfInBounds j true) s Fc Mc M2 L' F' M')
    (h3 : Stp P w0 n L D F M ok fun L' F' M' => Fle F F' ∧ Mc.Sublist M' ∧ Dr P w0 n ops Q D fuel (listed.setIfInBounds k true) s Fc Mc M2 L' F' M')
    (h4 : Stp P w0 n L D F M ol fun L' F' M' => Fle F F' ∧ Mc.Sublist M' ∧ Dr P w0 n ops Q D fuel (listed.setIfInBounds l true) s Fc Mc M2 L' F' M') : Dr P w0 n ops Q D (fuel + 1) listed s Fc Mc M2 L F M := by
  refine d_many [i, j, k, l] (by simp) (by simpa using hr) hl fun x hx => ?_
  simp only [List.mem_cons, List.not_mem_nil, or_false] at hx
  rcases hx with rfl | rfl | rfl | rfl
  · exact ⟨_, hi, hg, h⟩
  · exact ⟨_, hj, hg2, h2⟩
  · exact ⟨_, hk, hg3, h3⟩
  · exact ⟨_, hl4, hg4, h4⟩
/-- More is known from here on. -/
theorem d_more (Mc' : OM) {fuel : Nat} {listed : Array Bool} (hl : Fle Fc F) (hm : Mc.Sublist Mc') (h : Dr P w0 n ops Q D fuel listed s F Mc' M2 L F M) : Dr P w0 n ops Q D fuel listed s Fc Mc M2 L F M := by
  intro hclo a w hf hs
  refine AnyC.mono (fun _ => True) (fun _ _ _ => trivial) (fun l w _ h => ?_) _ _ _ _ trivial (h hclo a w hf hs)
  cases s with
  | none => exact Sat.sub h hl hm
  | some s => exact h.imp (fun h => ⟨h.1, h.2.sub hl (List.Sublist.refl _)⟩) fun h => h.sub hl hm
theorem d_done {fuel : Nat} {listed : Array Bool} (hr : (Region.ready .any ops listed == []) = true) (h : At w0 n (Nm Q) L D F M) : Dr P w0 n ops Q D fuel listed s Fc Mc M2 L F M := by
  intro _ a w hf hs
  have hr' : Region.ready .any ops listed = [] := by simpa using hr
  have h1 := h a w hf hs
  cases fuel with
  | zero => exact ⟨hr', h1⟩
  | succ f => exact ⟨fun _ => h1, by rw [hr']; simp⟩
end
end
end Go.Sx
