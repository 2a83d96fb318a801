/- Symbolic execution over a frozen heap F and owned blocks M: definitions and rules, over any program. -/
import Derived.WalkKit
import Derived.Below
import Derived.Deep.LoopGhost
import Derived.Deep.Quiet
namespace Go.Sx

/-- What is owned: a block, or a slice with the whole row behind it (no block if it is nil). -/
inductive Ch where
  | blk (b : Nat) (o : Obj)
  | row (A : Option Addr) (n c : Nat) (e : TypeId) (sz : Nat) (xs : List Value)
abbrev FH := Nat → Option Obj
abbrev OM := List Ch
abbrev SL := List (Nat × Value)

def Ch.foot : Ch → List Nat
  | .blk b _ => [b]
  | .row A n c _ _ _ => (Value.slice A n c).ownBlock.toList
def Ch.ok (w : World) : Ch → Prop
  | .blk b o => w.heap[b]? = some o
  | .row A n c e sz xs => w.ownsRow 0 e sz (.slice A n c) n xs

structure Sat (w0 : World) (F : FH) (M : OM) (w : World) : Prop where
  os : w.os = w0.os
  tape : w.tape = w0.tape
  output : w.output = w0.output
  size : w0.heap.size ≤ w.heap.size
  fro : ∀ b o, F b = some o → w.heap[b]? = some o
  own : ∀ c ∈ M, c.ok w
  apart : ∀ c ∈ M, ∀ b ∈ c.foot, F b = none
  nd : (M.flatMap Ch.foot).Nodup

theorem ownsRow_of_block {w w' : World} {base : Nat} {e : TypeId} {sz : Nat} {v : Value} {n : Nat} {xs : List Value} (h : w.ownsRow base e sz v n xs)
    (hb : ∀ b ∈ v.ownBlock.toList, w'.heap[b]? = w.heap[b]?) : w'.ownsRow base e sz v n xs := by
  refine ⟨h.1, ?_⟩
  rcases h.2 with hn | ⟨g, cap, cur, rfl, hbb, hg, rest⟩
  · exact .inl hn
  · exact .inr ⟨g, cap, cur, rfl, hbb, by rw [hb g (by simp [Value.ownBlock])]; exact hg, rest⟩
theorem Ch.ok_of_block {w w' : World} {c : Ch} (h : c.ok w) (hb : ∀ b ∈ c.foot, w'.heap[b]? = w.heap[b]?) : c.ok w' := by
  cases c with
  | blk b o => simp only [Ch.ok] at h ⊢; rw [hb b (by simp [Ch.foot])]; exact h
  | row A n c e sz xs => exact ownsRow_of_block h hb
theorem Ch.foot_lt {w : World} {c : Ch} (h : c.ok w) : ∀ b ∈ c.foot, b < w.heap.size := by
  intro b hb
  cases c with
  | blk b' o =>
    simp only [Ch.foot, List.mem_singleton] at hb
    subst hb
    exact (Array.getElem?_eq_some_iff.1 h).1
  | row A n c e sz xs =>
    simp only [Ch.foot, Option.mem_toList] at hb
    exact (World.ownsRow.lt h b hb).2

/-- M' is M with c' in the place of c. -/
inductive Upd : OM → Ch → Ch → OM → Prop where
  | head {c c' M} : Upd (c :: M) c c' (c' :: M)
  | tail {c c' p M M'} : Upd M c c' M' → Upd (p :: M) c c' (p :: M')
theorem Upd.split {M M' : OM} {c c' : Ch} (h : Upd M c c' M') : ∃ l1 l2, M = l1 ++ c :: l2 ∧ M' = l1 ++ c' :: l2 := by
  induction h with
  | head => exact ⟨[], _, rfl, rfl⟩
  | tail _ ih =>
    obtain ⟨l1, l2, rfl, rfl⟩ := ih
    exact ⟨_ :: l1, l2, rfl, rfl⟩
theorem Upd.mid (l1 l2 : OM) (c c' : Ch) : Upd (l1 ++ c :: l2) c c' (l1 ++ c' :: l2) := by
  induction l1 with
  | nil => exact .head
  | cons p l1 ih => exact .tail ih
inductive Has : OM → Ch → Prop where
  | head {c M} : Has (c :: M) c
  | tail {c p M} : Has M c → Has (p :: M) c
theorem Has.mem {M : OM} {c : Ch} (h : Has M c) : c ∈ M := by
  induction h with
  | head => exact List.mem_cons_self
  | tail _ ih => exact List.mem_cons_of_mem _ ih
/-- M without c. -/
inductive Del : OM → Ch → OM → Prop where
  | head {c M} : Del (c :: M) c M
  | tail {c p M M'} : Del M c M' → Del (p :: M) c (p :: M')
theorem Del.split {M M' : OM} {c : Ch} (h : Del M c M') : ∃ l1 l2, M = l1 ++ c :: l2 ∧ M' = l1 ++ l2 := by
  induction h with
  | head => exact ⟨[], _, rfl, rfl⟩
  | tail _ ih =>
    obtain ⟨l1, l2, rfl, rfl⟩ := ih
    exact ⟨_ :: l1, l2, rfl, rfl⟩

theorem Sat.fresh {w0 w : World} {F : FH} {M : OM} (hs : Sat w0 F M w) {b : Nat} (hb : w.heap.size ≤ b) : F b = none := by
  cases h : F b with
  | none => rfl
  | some o =>
    have := hs.fro b o h
    have := (Array.getElem?_eq_some_iff.1 this).1
    omega
theorem Sat.froLt {w0 w : World} {F : FH} {M : OM} (hs : Sat w0 F M w) {b : Nat} {o : Obj} (hb : F b = some o) : b < w.heap.size :=
  (Array.getElem?_eq_some_iff.1 (hs.fro b o hb)).1
theorem Sat.upd {w0 w w' : World} {F : FH} {M M' : OM} {c c' : Ch} (hs : Sat w0 F M w) (hu : Upd M c c' M') (hos : w'.os = w.os) (ht : w'.tape = w.tape) (ho : w'.output = w.output)
    (hsz : w.heap.size ≤ w'.heap.size) (hother : ∀ k, k < w.heap.size → k ∉ c.foot → w'.heap[k]? = w.heap[k]?) (hok : c'.ok w') (hfoot : ∀ b ∈ c'.foot, b ∈ c.foot ∨ w.heap.size ≤ b)
    (hnd : c'.foot.Nodup) : Sat w0 F M' w' := by
  obtain ⟨l1, l2, rfl, rfl⟩ := hu.split
  have hnd0 := hs.nd
  simp only [List.flatMap_append, List.flatMap_cons] at hnd0
  have hd1 : ∀ q ∈ l1 ++ l2, ∀ b ∈ q.foot, b ∉ c.foot := by
    intro q hq b hb hc
    rw [List.nodup_append] at hnd0
    rcases List.mem_append.1 hq with h1 | h2
    · exact hnd0.2.2 b (List.mem_flatMap.2 ⟨q, h1, hb⟩) b (List.mem_append_left _ hc) rfl
    · exact (List.nodup_append.1 hnd0.2.1).2.2 b hc b (List.mem_flatMap.2 ⟨q, h2, hb⟩) rfl
  have hcmem : c ∈ l1 ++ c :: l2 := by simp
  have hlt : ∀ q ∈ l1 ++ l2, ∀ b ∈ q.foot, b < w.heap.size := fun q hq b hb => by
    refine Ch.foot_lt (hs.own q ?_) b hb
    rcases List.mem_append.1 hq with h | h <;> simp [h]
  refine ⟨hos.trans hs.os, ht.trans hs.tape, ho.trans hs.output, Nat.le_trans hs.size hsz, fun b o hb => ?_, fun q hq => ?_, fun q hq b hb => ?_, ?_⟩
  · have hlt := hs.froLt hb
    have hnc : b ∉ c.foot := fun hc => by have := hs.apart c hcmem b hc; rw [this] at hb; cases hb
    rw [hother b hlt hnc]
    exact hs.fro b o hb
  · have hq' : q = c' ∨ q ∈ l1 ++ l2 := by
      rcases List.mem_append.1 hq with h | h
      · exact .inr (by simp [h])
      · rcases List.mem_cons.1 h with h | h
        · exact .inl h
        · exact .inr (by simp [h])
    rcases hq' with rfl | hq'
    · exact hok
    · refine Ch.ok_of_block (hs.own q ?_) fun b hb => hother b (hlt q hq' b hb) (hd1 q hq' b hb)
      rcases List.mem_append.1 hq' with h | h <;> simp [h]
  · have hq' : q = c' ∨ q ∈ l1 ++ c :: l2 := by
      rcases List.mem_append.1 hq with h | h
      · exact .inr (by simp [h])
      · rcases List.mem_cons.1 h with h | h
        · exact .inl h
        · exact .inr (by simp [h])
    rcases hq' with rfl | hq'
    · rcases hfoot b hb with h | h
      · exact hs.apart c hcmem b h
      · exact hs.fresh h
    · exact hs.apart q hq' b hb
  · simp only [List.flatMap_append, List.flatMap_cons]
    rw [List.nodup_append] at hnd0 ⊢
    refine ⟨hnd0.1, ?_, ?_⟩
    · rw [List.nodup_append]
      refine ⟨hnd, (List.nodup_append.1 hnd0.2.1).2.1, ?_⟩
      intro x hx y hy hxy
      subst hxy
      obtain ⟨q, hq, hb⟩ := List.mem_flatMap.1 hy
      rcases hfoot x hx with h | h
      · exact hd1 q (by simp [hq]) x hb h
      · have := hlt q (by simp [hq]) x hb; omega
    · intro x hx y hy hxy
      subst hxy
      rcases List.mem_append.1 hy with hy | hy
      · obtain ⟨q, hq, hb⟩ := List.mem_flatMap.1 hx
        rcases hfoot x hy with h | h
        · exact hd1 q (by simp [hq]) x hb h
        · have := hlt q (by simp [hq]) x hb; omega
      · exact hnd0.2.2 x hx x (List.mem_append_right _ hy) rfl
/-- A block more. -/
theorem Sat.push {w0 w : World} {F : FH} {M : OM} (hs : Sat w0 F M w) (o : Obj) : Sat w0 F (.blk w.heap.size o :: M) (w.alloc o) := by
  have hold : ∀ k, k < w.heap.size → (w.alloc o).heap[k]? = w.heap[k]? := fun k hk => by first | exact heap_alloc_old w o hk | exact heap_alloc_old w o k hk
  refine ⟨hs.os, hs.tape, hs.output, ?_, fun b o' hb => ?_, fun c hc => ?_, fun c hc b hb => ?_, ?_⟩
  · have := hs.size; simp; omega
  · rw [hold b (hs.froLt hb)]; exact hs.fro b o' hb
  · rcases List.mem_cons.1 hc with rfl | hc
    · exact heap_alloc_new w o
    · exact Ch.ok_of_block (hs.own c hc) fun b hb => hold b (Ch.foot_lt (hs.own c hc) b hb)
  · rcases List.mem_cons.1 hc with rfl | hc
    · simp only [Ch.foot, List.mem_singleton] at hb
      subst hb
      exact hs.fresh (Nat.le_refl _)
    · exact hs.apart c hc b hb
  · simp only [List.flatMap_cons, Ch.foot, List.singleton_append, List.nodup_cons]
    refine ⟨fun h => ?_, hs.nd⟩
    obtain ⟨q, hq, hb⟩ := List.mem_flatMap.1 h
    have := Ch.foot_lt (hs.own q hq) _ hb
    omega
theorem Sat.drop {w0 w : World} {F : FH} {M M' : OM} {c : Ch} (hs : Sat w0 F M w) (hd : Del M c M') : Sat w0 F M' w := by
  obtain ⟨l1, l2, rfl, rfl⟩ := hd.split
  have hm : ∀ q ∈ l1 ++ l2, q ∈ l1 ++ c :: l2 := fun q hq => by rcases List.mem_append.1 hq with h | h <;> simp [h]
  refine ⟨hs.os, hs.tape, hs.output, hs.size, hs.fro, fun q hq => hs.own q (hm q hq), fun q hq => hs.apart q (hm q hq), ?_⟩
  have := hs.nd
  simp only [List.flatMap_append, List.flatMap_cons] at this ⊢
  rw [List.nodup_append] at this ⊢
  refine ⟨this.1, (List.nodup_append.1 this.2.1).2.1, fun x hx y hy => this.2.2 x hx y (List.mem_append_right _ hy)⟩
theorem Sat.front {w0 w : World} {F : FH} {l1 l2 : OM} {c : Ch} (hs : Sat w0 F (l1 ++ c :: l2) w) : Sat w0 F (c :: (l1 ++ l2)) w := by
  have hm : ∀ q ∈ c :: (l1 ++ l2), q ∈ l1 ++ c :: l2 := fun q hq => by
    rcases List.mem_cons.1 hq with h | h
    · simp [h]
    · rcases List.mem_append.1 h with h | h <;> simp [h]
  refine ⟨hs.os, hs.tape, hs.output, hs.size, hs.fro, fun q hq => hs.own q (hm q hq), fun q hq => hs.apart q (hm q hq), ?_⟩
  have := hs.nd
  refine (List.Perm.nodup_iff ?_).1 this
  exact List.Perm.flatMap_right _ List.perm_middle
theorem Sat.drew {w0 w : World} {F : FH} {M : OM} (hs : Sat w0 F M w) : Sat w0 F M { w with drawn := w.drawn + 1 } :=
  ⟨hs.os, hs.tape, hs.output, hs.size, hs.fro, fun c hc => Ch.ok_of_block (w := w) (hs.own c hc) fun _ _ => rfl, hs.apart, hs.nd⟩
def Fle (F F' : FH) : Prop := ∀ b o, F b = some o → F' b = some o
theorem Fle.refl (F : FH) : Fle F F := fun _ _ h => h
theorem Fle.trans {F G H : FH} (h : Fle F G) (k : Fle G H) : Fle F H := fun b o hb => k b o (h b o hb)

/-- The frozen heap with a block more. -/
def FH.add (F : FH) (b : Nat) (o : Obj) : FH := fun k => if k = b then some o else F k
theorem FH.le_add {F : FH} {b : Nat} {o : Obj} (h : F b = none) : Fle F (F.add b o) := by
  intro k o' hk
  unfold FH.add
  split
  · rename_i e; subst e; rw [h] at hk; cases hk
  · exact hk
theorem Sat.freeze {w0 w : World} {F : FH} {M M' : OM} {c : Ch} {b : Nat} {o : Obj} (hs : Sat w0 F M w) (hd : Del M c M') (hb : b ∈ c.foot) (ho : w.heap[b]? = some o) : Fle F (F.add b o) ∧ Sat w0 (F.add b o) M' w := by
  have hs' := hs.drop hd
  obtain ⟨l1, l2, rfl, rfl⟩ := hd.split
  have hc : c ∈ l1 ++ c :: l2 := by simp
  have hn := hs.apart c hc b hb
  refine ⟨FH.le_add hn, hs'.os, hs'.tape, hs'.output, hs'.size, fun k o' hk => ?_, hs'.own, fun q hq k hk => ?_, hs'.nd⟩
  · unfold FH.add at hk
    split at hk
    · rename_i e; subst e; cases hk; exact ho
    · exact hs.fro k o' hk
  · unfold FH.add
    split
    · rename_i e
      subst e
      have hnd := hs.nd
      simp only [List.flatMap_append, List.flatMap_cons] at hnd
      rw [List.nodup_append] at hnd
      rcases List.mem_append.1 hq with h1 | h2
      · exact absurd rfl (hnd.2.2 k (List.mem_flatMap.2 ⟨q, h1, hk⟩) k (List.mem_append_left _ hb))
      · exact absurd rfl ((List.nodup_append.1 hnd.2.1).2.2 k hb k (List.mem_flatMap.2 ⟨q, h2, hk⟩))
    · exact hs'.apart q hq k hk

/-- look up a slot -/
def lk : SL → Nat → Option Value
  | [], _ => none
  | (j, v) :: t, i => bif Nat.beq j i then some v else lk t i

def ev (L : SL) : Operand → Option Value
  | .tmp t => lk L t
  | .const v => some v
  | .global g => some (.pointer (some ⟨g, 0, none⟩))
  | .func f => some (.func (.func f) #[] #[])

structure Fr (L : SL) (D : List Deferred) (n : Nat) (a : Act) : Prop where
  size : a.tmps.size = n
  get : ∀ i v, lk L i = some v → a.tmps[i]? = some v
  defers : a.defers = D

theorem Fr.eval {L : SL} {D : List Deferred} {n : Nat} {a : Act} (h : Fr L D n a) {x : Operand} {v : Value} (hx : ev L x = some v) : a.eval x = v := by
  cases x with
  | tmp t => have := h.get t v hx; simp [Act.eval, this]
  | const v => simpa [ev, Act.eval] using hx
  | global g => simpa [ev, Act.eval] using hx
  | func f => simpa [ev, Act.eval] using hx

theorem Fr.put {L : SL} {D : List Deferred} {n : Nat} {a : Act} (h : Fr L D n a) {d : Nat} (hd : d < n) (v : Value) : Fr ((d, v) :: L) D n (a.put (some d) v) := by
  refine ⟨by simp [Act.put, h.size], fun i u hi => ?_, by simp [Act.put, h.defers]⟩
  simp only [lk] at hi
  simp only [Act.put]
  by_cases e : d = i
  · subst e
    simp at hi
    subst hi
    simp [h.size, hd]
  · have : Nat.beq d i = false := by
      cases hb : Nat.beq d i with
      | false => rfl
      | true => exact absurd (Nat.eq_of_beq_eq_true hb) e
    rw [this] at hi
    simp only [cond_false] at hi
    rw [Array.getElem?_setIfInBounds_ne e]
    exact h.get i u hi

theorem Fr.none {L : SL} {D : List Deferred} {n : Nat} {a : Act} (h : Fr L D n a) (v : Value) : Fr L D n (a.put none v) := h

theorem Fr.sub {L L' : SL} {D : List Deferred} {n : Nat} {a : Act} (h : Fr L D n a) (hs : ∀ i v, lk L' i = some v → lk L i = some v) : Fr L' D n a :=
  ⟨h.size, fun i v hi => h.get i v (hs i v hi), h.defers⟩

/-- all of L' stands in L -/
def SubL (L' L : SL) : Prop := ∀ i v, lk L' i = some v → lk L i = some v
theorem SubL.nil (L : SL) : SubL [] L := fun i v h => by simp [lk] at h
theorem SubL.cons {L' L : SL} {i : Nat} {v : Value} (h : lk L i = some v) (k : SubL L' L) : SubL ((i, v) :: L') L := by
  intro j u hj
  simp only [lk] at hj
  cases hb : Nat.beq i j with
  | true =>
    rw [hb] at hj
    simp only [cond_true] at hj
    have e := Nat.eq_of_beq_eq_true hb
    subst e
    rw [h, hj]
  | false =>
    rw [hb] at hj
    exact k j u hj

def At (w0 : World) (n : Nat) (K : Act → World → Prop) (L : SL) (D : List Deferred) (F : FH) (M : OM) : Prop :=
  ∀ a w, Fr L D n a → Sat w0 F M w → K a w

def Wc (P : Program) (c : Code) (Q : Exit → Act → World → Prop) : Act → World → Prop := fun a w => c.wp P Q a w
def Wl (P : Program) (ops : Array Oper) (Q : Exit → Act → World → Prop) (l : List Oper) : Act → World → Prop := fun a w => wpList P ops Q l a w
def Nm (Q : Exit → Act → World → Prop) : Act → World → Prop := fun a w => Q .normal a w
def Rt (Q : Exit → Act → World → Prop) : Act → World → Prop := fun a w => Q .ret a w
def Ex (id : Nat) (Q : Exit → Act → World → Prop) : Act → World → Prop := fun a w => Q (.exit id) a w

section control
variable {P : Program} {w0 : World} {n : Nat} {L : SL} {D : List Deferred} {F : FH} {M : OM} {Q : Exit → Act → World → Prop} {K : Act → World → Prop}

theorem At.mono {K' : Act → World → Prop} (h : At w0 n K L D F M) (hk : ∀ a w, K a w → K' a w) : At w0 n K' L D F M :=
  fun a w hf hs => hk a w (h a w hf hs)
theorem At.weaken {L' : SL} (h : At w0 n K L' D F M) (hs : SubL L' L) : At w0 n K L D F M :=
  fun a w hf hS => h a w (hf.sub hs) hS

theorem r_seq {x y : Code} (h : At w0 n (Wc P x (Exit.then (Wc P y Q) Q)) L D F M) : At w0 n (Wc P (.seq x y) Q) L D F M :=
  h.mono fun _ _ h => wp_seq h
theorem r_skip (h : At w0 n (Nm Q) L D F M) : At w0 n (Wc P .skip Q) L D F M := h.mono fun _ _ h => wp_skip h
theorem r_label {l : Nat} (h : At w0 n (Nm Q) L D F M) : At w0 n (Wc P (.label l) Q) L D F M := h.mono fun _ _ h => wp_label h
theorem r_nm_then (h : At w0 n K L D F M) : At w0 n (Nm (Exit.then K Q)) L D F M := h
theorem r_nm_block {id : Nat} (h : At w0 n (Nm Q) L D F M) : At w0 n (Nm (Exit.inBlock id Q)) L D F M := h
theorem r_nm_scope (h : At w0 n (Nm Q) L D F M) : At w0 n (Nm (Exit.noGoto Q)) L D F M := h
theorem r_ret (h : At w0 n (Rt Q) L D F M) : At w0 n (Wc P .ret Q) L D F M := h.mono fun _ _ h => wp_ret h
theorem r_rt_then (h : At w0 n (Rt Q) L D F M) : At w0 n (Rt (Exit.then K Q)) L D F M := h
theorem r_rt_block {id : Nat} (h : At w0 n (Rt Q) L D F M) : At w0 n (Rt (Exit.inBlock id Q)) L D F M := h
theorem r_rt_scope (h : At w0 n (Rt Q) L D F M) : At w0 n (Rt (Exit.noGoto Q)) L D F M := h
theorem r_exit {id : Nat} (h : At w0 n (Ex id Q) L D F M) : At w0 n (Wc P (.exit id) Q) L D F M := h.mono fun _ _ h => wp_exit h
theorem r_ex_then {id : Nat} (h : At w0 n (Ex id Q) L D F M) : At w0 n (Ex id (Exit.then K Q)) L D F M := h
theorem r_ex_scope {id : Nat} (h : At w0 n (Ex id Q) L D F M) : At w0 n (Ex id (Exit.noGoto Q)) L D F M := h
theorem r_ex_here {id : Nat} (h : At w0 n (Nm Q) L D F M) : At w0 n (Ex id (Exit.inBlock id Q)) L D F M :=
  h.mono fun a w h => by simp only [Ex, Exit.inBlock, if_true]; exact h
theorem r_ex_on {id id' : Nat} (hne : Nat.beq id id' = false) (h : At w0 n (Ex id Q) L D F M) : At w0 n (Ex id (Exit.inBlock id' Q)) L D F M :=
  h.mono fun a w h => by
    have : id ≠ id' := fun e => by subst e; simp at hne
    simp only [Ex, Exit.inBlock, if_neg this]; exact h
theorem r_block {id : Nat} {c : Code} (h : At w0 n (Wc P c (Exit.inBlock id Q)) L D F M) : At w0 n (Wc P (.block id c) Q) L D F M :=
  h.mono fun _ _ h => wp_block h
theorem r_scope {c : Code} (h : At w0 n (Wc P c (Exit.noGoto Q)) L D F M) : At w0 n (Wc P (.scope c) Q) L D F M :=
  h.mono fun _ _ h => wp_scope_straight h
theorem r_cond_t {c : Operand} {x y : Code} (hc : ev L c = some (.bool true)) (h : At w0 n (Wc P x Q) L D F M) : At w0 n (Wc P (.cond c x y) Q) L D F M :=
  fun a w hf hs => wp_cond_true (hf.eval hc) (h a w hf hs)
theorem r_cond_f {c : Operand} {x y : Code} (hc : ev L c = some (.bool false)) (h : At w0 n (Wc P y Q) L D F M) : At w0 n (Wc P (.cond c x y) Q) L D F M :=
  fun a w hf hs => wp_cond_false (hf.eval hc) (h a w hf hs)
theorem r_cond {c : Operand} {x y : Code} {t : Bool} (hc : ev L c = some (.bool t)) (ht : t = true → At w0 n (Wc P x Q) L D F M) (hff : t = false → At w0 n (Wc P y Q) L D F M) :
    At w0 n (Wc P (.cond c x y) Q) L D F M :=
  fun a w hf hs => wp_cond_split (hf.eval hc) (fun e => ht e a w hf hs) (fun e => hff e a w hf hs)
theorem r_region {id : Nat} {l : List Oper} (h : At w0 n (Wl P l.toArray Q l) L D F M) : At w0 n (Wc P (.region id l.toArray false) Q) L D F M :=
  h.mono fun _ _ h => wp_region_lit h
theorem r_nil {ops : Array Oper} (h : At w0 n (Nm Q) L D F M) : At w0 n (Wl P ops Q []) L D F M := h.mono fun _ _ h => wpList_nil h

/-- What a round hands on. -/
def Again {ι : Type} (w0 : World) (n : Nat) (D : List Deferred) (Lx : ι → SL) (Fx : ι → FH) (Mx : ι → OM) (Inv : ι → Prop) (μ : ι → Nat) (k : Nat) : Act → World → Prop :=
  fun a w => ∃ y, Inv y ∧ μ y < k ∧ Fr (Lx y) D n a ∧ Sat w0 (Fx y) (Mx y) w

theorem r_loop {ι : Type} {c : Code} (Lx : ι → SL) (Fx : ι → FH) (Mx : ι → OM) (Inv : ι → Prop) (μ : ι → Nat) (x0 : ι) (h0 : Inv x0) (hL : SubL (Lx x0) L) (hF : F = Fx x0) (hM : M = Mx x0)
    (round : ∀ x, Inv x → At w0 n (Wc P c (Exit.then (Again w0 n D Lx Fx Mx Inv μ (μ x)) Q)) (Lx x) D (Fx x) (Mx x)) : At w0 n (Wc P (.loop c) Q) L D F M := by
  subst hF hM
  intro a w hf hs
  refine wp_loop_ghost (fun k a w => ∃ y, Inv y ∧ μ y = k ∧ Fr (Lx y) D n a ∧ Sat w0 (Fx y) (Mx y) w) (μ x0) ⟨x0, h0, rfl, hf.sub hL, hs⟩ ?_
  rintro k a w ⟨y, hy, rfl, hf, hs⟩
  refine wp_mono (round y hy a w hf hs) ?_
  intro e a' w' hq
  cases e with
  | normal =>
    obtain ⟨z, hz, hlt, hf', hs'⟩ := hq
    exact ⟨_, hlt, z, hz, rfl, hf', hs'⟩
  | _ => exact hq

theorem r_again {ι : Type} {Lx : ι → SL} {Fx : ι → FH} {Mx : ι → OM} {Inv : ι → Prop} {μ : ι → Nat} {k : Nat} (y : ι) (hi : Inv y) (hm : μ y < k) (hL : SubL (Lx y) L) (hF : F = Fx y) (hM : M = Mx y) :
    At w0 n (Again w0 n D Lx Fx Mx Inv μ k) L D F M := by
  subst hF hM
  exact fun a w hf hs => ⟨y, hi, hm, hf.sub hL, hs⟩

/-- The contract of a function: what it comes to from heap knowledge F, M. -/
def Tri (P : Program) (f : FuncId) (vs : List Value) (F : FH) (M : OM) (R : Value → FH → OM → Prop) : Prop :=
  ∀ w0 w, Sat w0 F M w → Calls P f vs.toArray w fun e w' => ∃ v F' M', e = .returned v ∧ Fle F F' ∧ Sat w0 F' M' w' ∧ R v F' M'

/-- What a body comes to. -/
def Done (P : Program) (w0 : World) (fn : Func) (F : FH) (R : Value → FH → OM → Prop) : Exit → Act → World → Prop :=
  bodyPost P fn fun e w' => ∃ v F' M', e = .returned v ∧ Fle F F' ∧ Sat w0 F' M' w' ∧ R v F' M'

def slots : Nat → List Value → SL
  | _, [] => []
  | i, v :: vs => (i, v) :: slots (i + 1) vs

theorem lk_slots : ∀ (vs : List Value) (k i : Nat) (v : Value), lk (slots k vs) i = some v → k ≤ i ∧ vs[i - k]? = some v := by
  intro vs
  induction vs with
  | nil => intro k i v h; simp [slots, lk] at h
  | cons u vs ih =>
    intro k i v h
    simp only [slots, lk] at h
    cases hb : Nat.beq k i with
    | true =>
      rw [hb] at h
      have e := Nat.eq_of_beq_eq_true hb
      subst e
      simpa using h
    | false =>
      rw [hb] at h
      obtain ⟨h1, h2⟩ := ih (k + 1) i v h
      refine ⟨by omega, ?_⟩
      rw [show i - k = (i - (k + 1)) + 1 by omega]
      simpa using h2

theorem tri_of {f : FuncId} {fn : Func} {c : Code} {vs : List Value} {R : Value → FH → OM → Prop} (hf : P.funcs[f]? = some fn) (hb : fn.body = some c) (hn : fn.ntmps = n) (hv : Nat.ble vs.length n = true)
    (h : ∀ w0, At w0 n (Wc P c (Done P w0 fn F R)) (slots 0 vs) [] F M) : Tri P f vs F M R := by
  intro w0 w hs
  refine calls_of_wp hf hb (h w0 _ w ⟨?_, ?_, rfl⟩ hs)
  · have := Nat.le_of_ble_eq_true hv; simp [hn]; omega
  · intro i v hi
    obtain ⟨_, h2⟩ := lk_slots vs 0 i v hi
    have hlt : i < vs.length := by
      have := (List.getElem?_eq_some_iff.1 (by simpa using h2)).1
      exact this
    simp only [Nat.sub_zero] at h2
    rw [Array.getElem?_append_left (by simpa using hlt)]
    simpa using h2

theorem Tri.mono {f : FuncId} {vs : List Value} {R R' : Value → FH → OM → Prop} (h : Tri P f vs F M R) (hr : ∀ v F' M', Fle F F' → R v F' M' → R' v F' M') : Tri P f vs F M R' :=
  fun w0 w hs => (h w0 w hs).mono fun _ _ ⟨v, F', M', he, hl, hs', hR⟩ => ⟨v, F', M', he, hl, hs', hr v F' M' hl hR⟩

/-- results that lie in slots -/
theorem r_done1 {fn : Func} {F0 : FH} {t : Nat} {v : Value} {R : Value → FH → OM → Prop} (hr : fn.results = #[.tmp t]) (hv : lk L t = some v) (hF : Fle F0 F) (h : R v F M) : At w0 n (Rt (Done P w0 fn F0 R)) L [] F M := by
  intro a w hf hs
  have e : a.tmps.getD t undef = v := by have := hf.get t v hv; simp [this]
  exact ⟨hf.defers, v, by rw [results_tmp hr, e], v, F, M, rfl, hF, hs, h⟩
theorem r_done0 {fn : Func} {F0 : FH} {R : Value → FH → OM → Prop} (hr : fn.results = #[]) (hF : Fle F0 F) (h : R (.tuple #[]) F M) : At w0 n (Nm (Done P w0 fn F0 R)) L [] F M := by
  intro a w hf hs
  exact ⟨hf.defers, _, results_none hr _ _ _, _, F, M, rfl, hF, hs, h⟩
theorem r_done0r {fn : Func} {F0 : FH} {R : Value → FH → OM → Prop} (hr : fn.results = #[]) (hF : Fle F0 F) (h : R (.tuple #[]) F M) : At w0 n (Rt (Done P w0 fn F0 R)) L [] F M := by
  intro a w hf hs
  exact ⟨hf.defers, _, results_none hr _ _ _, _, F, M, rfl, hF, hs, h⟩
end control
end Go.Sx
