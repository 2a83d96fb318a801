/- Further rules: make, copy, results of several kinds, rounds, deferred calls, panics. -/
import Derived.Test.YtohbfncogdligaaSxDraw
namespace Go.Sx
open Go

section
variable {P : Program} {w0 : World} {n : Nat} {L : SL} {D : List Deferred} {F : FH} {M : OM} {Q : Exit → Act → World → Prop}
  {ops : Array Oper} {rest : List Oper} {ty : TypeId} {ps : String} {af : Array Edge} {d : Nat} {K : SL → FH → OM → Prop}

theorem v_extract {x : Operand} {vs : List Value} {i : Nat} {v : Value} (hx : ev L x = some (.tuple ⟨vs⟩)) (hv : vs[i]? = some v) : RunV P w0 n L D F M (.extract x i) ty v := fun a w hf _ _ _ _ _ => by
  have : (⟨vs⟩ : Array Value)[i]? = some v := by simpa using hv
  simp [execOp, hf.eval hx, Instr.extract, this]

theorem s_makeSlice {t e : TypeId} {st s : Nat} {gt ge : Bool} {ue : TypeDesc} {z : Value} {bytes : Nat} [ht : Ty P t (.slice e) st gt] [he : Ty P e ue s ge] [hz : Zr P e z] [hy : By P e bytes] {k1 k2 : IntKind} {m : Int} {x y : Operand}
    (hx : ev L x = some (.int k1 m)) (hy' : ev L y = some (.int k2 m)) (hzl : Nat.beq z.cells.toList.length s = true) (h0 : 0 ≤ m) (hb : (bytes : Int) * m ≤ 281474976710656) (hm : m ≤ 281474976710656) (hlt : Nat.blt d n = true)
    (k : ∀ b, K ((d, .slice (some ⟨b, 0, none⟩) m.toNat m.toNat) :: L) F (.row (some ⟨b, 0, none⟩) m.toNat m.toNat e s (reps z.cells.toList m.toNat) :: M)) :
    Stp P w0 n L D F M ⟨some d, .makeSlice t x y, ty, ps, af, none⟩ K :=
  r_eff hlt fun a w hf hs => by
    obtain ⟨i0, hi, hz0, hz1, hz2⟩ := info_of (P := P) (t := e)
    have hzl' : z.cells.toList.length = s := Nat.eq_of_beq_eq_true hzl
    have hrun := run_make (P := P) w t e i0 z ht.und hi hz0 k1 k2 m m h0 (Int.le_refl _) (by rw [hz2]; exact hb) (by omega)
    have hlen : (reps z.cells.toList m.toNat).length = m.toNat * s := by rw [length_reps, hzl']
    have hcells : madeCells z.cells (m.toNat * i0.size) = ⟨reps z.cells.toList m.toNat⟩ := by
      rw [hz1]
      have := range_reps z.cells.toList m.toNat
      rw [hzl'] at this
      have e : (⟨z.cells.toList⟩ : Array Value).size = s := by simpa using hzl'
      rw [← this, madeCells]
      have e2 : z.cells.size = s := by simpa using hzl'
      rw [e2]
    refine ⟨_, _, F, _, by simp only [execOp, hf.eval hx, hf.eval hy', Sem.run_bind, hrun, Result.andThen_ok, Sem.run_pure]; exact rfl, ?_, k w.heap.size⟩
    rw [hcells]
    have hp := hs.push (.cells ⟨reps z.cells.toList m.toNat⟩ e)
    refine hp.upd .head rfl rfl rfl (Nat.le_refl _) (fun _ _ _ => rfl) ?_ (fun b hb => .inl (by simpa [Ch.foot, Value.ownBlock] using hb)) (by simp [Ch.foot, Value.ownBlock])
    refine ⟨hlen, .inr ⟨_, m.toNat, ⟨reps z.cells.toList m.toNat⟩, rfl, Nat.zero_le _, heap_alloc_new w _, Nat.le_refl _, by unfold maxLen; omega, by simpa using hlen, List.take_of_length_le (Nat.le_of_eq hlen)⟩⟩

theorem s_makeSliceN {t e : TypeId} {st s : Nat} {gt ge : Bool} {ue : TypeDesc} {z : Value} {bytes : Nat} [ht : Ty P t (.slice e) st gt] [he : Ty P e ue s ge] [hz : Zr P e z] [hy : By P e bytes] {k1 k2 : IntKind} {m : Nat} {x y : Operand}
    (hx : ev L x = some (.int k1 (m : Int))) (hy' : ev L y = some (.int k2 (m : Int))) (hzl : Nat.beq z.cells.toList.length s = true) (hb : bytes * m ≤ 281474976710656) (hm : m ≤ 281474976710656) (hlt : Nat.blt d n = true)
    (k : ∀ b, K ((d, .slice (some ⟨b, 0, none⟩) m m) :: L) F (.row (some ⟨b, 0, none⟩) m m e s (reps z.cells.toList m) :: M)) :
    Stp P w0 n L D F M ⟨some d, .makeSlice t x y, ty, ps, af, none⟩ K := by
  have := s_makeSlice (P := P) (w0 := w0) (n := n) (L := L) (D := D) (F := F) (M := M) (ty := ty) (ps := ps) (af := af) (d := d) (K := K) (t := t) (x := x) (y := y) hx hy' hzl (by omega) (by rw [← Int.natCast_mul]; omega) (by omega) hlt
  simp only [Int.toNat_natCast] at this
  exact this k

theorem s_mk {t e : TypeId} {st s : Nat} {gt ge : Bool} {ue : TypeDesc} {z : Value} {bytes : Nat} [ht : Ty P t (.slice e) st gt] [he : Ty P e ue s ge] [hz : Zr P e z] [hy : By P e bytes] {k1 k2 : IntKind} {m : Nat} {x y : Operand} {R : List Value} (i : Int) (him : i = m)
    (hx : ev L x = some (.int k1 i)) (hy' : ev L y = some (.int k2 i)) (hzl : Nat.beq z.cells.toList.length s = true) (hb : bytes * m ≤ 281474976710656) (hm : m ≤ 281474976710656) (hR : reps z.cells.toList m = R) (hlt : Nat.blt d n = true)
    (k : ∀ b, K ((d, .slice (some ⟨b, 0, none⟩) m m) :: L) F (.row (some ⟨b, 0, none⟩) m m e s R :: M)) :
    Stp P w0 n L D F M ⟨some d, .makeSlice t x y, ty, ps, af, none⟩ K := by
  subst him hR
  exact s_makeSliceN hx hy' hzl hb hm hlt k

/-- what brings literal lists of cells into order -/
theorem LL : (∀ (C : List Value) o vs, put C o vs = C.take o ++ vs ++ C.drop (o + vs.length)) ∧ (∀ (C : List Value) o s, sub C o s = (C.drop o).take s) ∧
    (∀ (x : Value) l n, (x :: l).take (n + 1) = x :: l.take n) ∧ (∀ (l : List Value), l.take 0 = []) ∧ (∀ n, ([] : List Value).take n = []) ∧
    (∀ (x : Value) l n, (x :: l).drop (n + 1) = l.drop n) ∧ (∀ (l : List Value), l.drop 0 = l) ∧ (∀ n, ([] : List Value).drop n = []) ∧
    (∀ (x : Value) l m, (x :: l) ++ m = x :: (l ++ m)) ∧ (∀ (l : List Value), [] ++ l = l) ∧ (∀ (l : List Value), l ++ [] = l) ∧
    (∀ (x : Value) l, (x :: l).length = l.length + 1) ∧ ([] : List Value).length = 0 ∧ (∀ n : Nat, 0 + n = n) ∧ (∀ n : Nat, n + 0 = n) ∧ (∀ n : Nat, 0 * n = 0) ∧ (∀ n : Nat, n * 1 = n) ∧
    (∀ k i, (Value.int k i).cells.toList = [.int k i]) ∧ (∀ b, (Value.bool b).cells.toList = [.bool b]) ∧ (∀ C, (Value.agg ⟨C⟩).cells.toList = C) ∧ (∀ A, (Value.pointer A).cells.toList = [.pointer A]) ∧
    (∀ A m c, (Value.slice A m c).cells.toList = [.slice A m c]) ∧ (∀ f a b, (Value.func f a b).cells.toList = [.func f a b]) ∧ (∀ x, (Value.string x).cells.toList = [.string x]) ∧ (∀ x, (Value.map x).cells.toList = [.map x]) ∧
    (∀ t v, (Value.iface t v).cells.toList = [.iface t v]) ∧ Value.nilIface.cells.toList = [.nilIface] ∧ Value.nilFunc.cells.toList = [.nilFunc] ∧
    (∀ Z, reps Z 0 = []) ∧ (∀ Z n, reps Z (n + 1) = Z ++ reps Z n) := by
  refine ⟨fun _ _ _ => rfl, fun _ _ _ => rfl, fun _ _ _ => rfl, fun _ => rfl, fun _ => by simp, fun _ _ _ => rfl, fun _ => rfl, fun _ => by simp, fun _ _ _ => rfl, fun _ => rfl, fun _ => by simp, fun _ _ => rfl, rfl, fun _ => by simp, fun _ => rfl, fun _ => by simp, fun _ => by simp,
    fun _ _ => rfl, fun _ => rfl, fun _ => rfl, fun _ => rfl, fun _ _ _ => rfl, fun _ _ _ => rfl, fun _ => rfl, fun _ => rfl, fun _ _ => rfl, rfl, rfl, fun _ => rfl, fun _ _ => rfl⟩

/-- copy into a row of the same length -/
theorem s_copy {x y : Operand} {t e : TypeId} {st : Nat} {gt ge : Bool} {ue : TypeDesc} {z : Value} {bytes : Nat} [ht : Ty P t (.slice e) st gt] [he : Ty P e ue 1 ge] [hz : Zr P e z] [hy : By P e bytes]
    {g m c : Nat} {xs ys : List Value} {B : Option Addr} {c2 : Nat} {M' : OM} (hx : ev L x = some (.slice (some ⟨g, 0, none⟩) m c)) (hyv : ev L y = some (.slice B m c2)) (hm : Has M (.row (some ⟨g, 0, none⟩) m c e 1 xs))
    (hsrc : ∀ w, Sat w0 F M w → ys.length = m ∧ (0 < m → ∃ ad, B = some ad ∧ ∀ j u, ys[j]? = some u → w.cell? (ad.add j) = some u)) (h1 : ys.all Value.oneCell' = true)
    (hu : Upd M (.row (some ⟨g, 0, none⟩) m c e 1 xs) (.row (some ⟨g, 0, none⟩) m c e 1 ys) M') (hlt : Nat.blt d n = true)
    (k : K ((d, .int .i64 m) :: L) F M') :
    Stp P w0 n L D F M ⟨some d, .call ⟨.builtin .copy, #[x, y], #[t, t]⟩, ty, ps, af, none⟩ K :=
  r_eff hlt fun a w hf hs => by
    obtain ⟨i0, hi, hz0, hz1, hz2⟩ := info_of (P := P) (t := e)
    obtain ⟨hyl, hys⟩ := hsrc w hs
    have hown : (Ch.row (some ⟨g, 0, none⟩) m c e 1 xs).ok w := hs.own _ hm.mem
    obtain ⟨hlen, h⟩ := hown
    rcases h with ⟨e1, _⟩ | ⟨g', cap, C, e1, _, hg, h3, h4, h5, h6⟩
    · cases e1
    cases e1
    have hall : ∀ v ∈ ys, v.oneCell' = true := by simpa [List.all_eq_true] using h1
    have hnew : Sat w0 F M' (w.setRow g (ys ++ C.toList.drop ys.length).toArray) := by
      refine hs.upd hu rfl rfl rfl (by simp [World.setRow]) (fun k _ hk => setRow_other w g k _ (fun e => hk (by simp [Ch.foot, Value.ownBlock, e]))) ?_ (fun b hb => .inl hb) (by simp [Ch.foot, Value.ownBlock])
      refine ⟨by simp [hyl], .inr ⟨g, c, _, rfl, Nat.zero_le _, setRow_heap w g C _ e _ hg, h3, h4, ?_, ?_⟩⟩
      · simp only [List.size_toArray, List.length_append, List.length_drop, Array.length_toList]; omega
      · simp only [Nat.mul_one]
        rw [← hyl]
        exact List.take_left
    rcases Nat.eq_zero_or_pos m with hm0 | hmp
    · subst hm0
      obtain rfl : ys = [] := List.eq_nil_of_length_eq_zero hyl
      have hself : w.setRow g ([] ++ C.toList.drop ([] : List Value).length).toArray = w := by simpa using setRow_self w g C e (0, 0) hg
      rw [hself] at hnew
      refine ⟨_, w, F, M', ?_, hnew, k⟩
      cases B <;> simp [execOp, resolve, invoke, builtin, hf.eval hx, hf.eval hyv, Builtin.copy_, run_underlying ht.und, Builtin.lenOf, Builtin.firstCells, sizeOf, typeInfo, hi, loadCells, loadCellsFrom, storeCells, goInt]
    · obtain ⟨ad, rfl, hc⟩ := hys hmp
      have hr := run_copy_row (P := P) w t t ty e g 0 m c ad m c2 C e ys ht.und (by rw [hi, Option.map_some, hz1]) hg (by simp [hyl]) hc (by omega) hall
      refine ⟨_, _, F, M', by simp only [execOp, resolve, invoke, builtin, hf.eval hx, hf.eval hyv, Sem.run_bind, Sem.run_pure, Result.andThen_ok, List.map_toArray, List.map_cons, List.map_nil, hr]; exact rfl, ?_, ?_⟩
      · simpa using hnew
      · simpa [goInt, hyl] using k

/-! a loop whose rounds are told one by one -/
def Rd (P : Program) (c : Code) (Q : Exit → Act → World → Prop) (k : Nat) : Act → World → Prop := fun a w => Code.rounds P c Q k a w
theorem r_rounds {c : Code} (k : Nat) (h : At w0 n (Rd P c Q k) L D F M) : At w0 n (Wc P (.loop c) Q) L D F M := h.mono fun _ _ h => wp_loop_rounds k h
theorem r_round {c : Code} {k : Nat} (h : At w0 n (Wc P c (Exit.then (Rd P c Q k) Q)) L D F M) : At w0 n (Rd P c Q (k + 1)) L D F M := h

/-! results -/
inductive RVs (P : Program) (L : SL) (M : OM) : List ResultVar → List Value → Prop where
  | nil : RVs P L M [] []
  | tmp {t v rs vs} : lk L t = some v → RVs P L M rs vs → RVs P L M (.tmp t :: rs) (v :: vs)
  | agg {t b ty u s C e fr rs vs} [Ty P ty u s true] : lk L t = some (.pointer (some ⟨b, 0, none⟩)) → Has M (.blk b (.cells ⟨C⟩ e fr)) → C.length = s → RVs P L M rs vs → RVs P L M (.cell t ty :: rs) (.agg ⟨C⟩ :: vs)
  | one {t b ty u s v e fr rs vs} [Ty P ty u s false] : lk L t = some (.pointer (some ⟨b, 0, none⟩)) → Has M (.blk b (.cells ⟨[v]⟩ e fr)) → RVs P L M rs vs → RVs P L M (.cell t ty :: rs) (v :: vs)
def resVar (tmps : Array Value) : ResultVar → Sem Value
  | .tmp t => pure (tmps.getD t undef)
  | .cell a t => do loadVar t (← asAddr (tmps.getD a undef))
theorem RVs.run {a : Act} {w : World} (hf : Fr L D n a) (hs : Sat w0 F M w) {rs : List ResultVar} {vs : List Value} (h : RVs P L M rs vs) :
    (rs.mapM (resVar a.tmps)).run P w = .ok vs w := by
  induction h with
  | nil => simp
  | @tmp t v rs vs h1 _ ih =>
    have e : (resVar a.tmps (.tmp t)).run P w = .ok v w := by have := hf.get _ _ h1; simp [resVar, this]
    simp only [List.mapM_cons, Sem.run_bind, Sem.run_pure, Result.andThen_ok, e, ih]
  | @agg t b ty u s C e fr rs vs ht h1 hm hl _ ih =>
    have h2 : ∀ j v, C[j]? = some v → w.cell? ⟨b, 0 + j, none⟩ = some v := fun j v hj => by rw [hs.cellM hm]; simpa using hj
    have h3 := run_loadAtA (P := P) (t := ty) hl h2
    simp only [Instr.loadAt, Instr.sureAddr, Sem.run_bind, Sem.run_pure, Result.andThen_ok] at h3
    have e : (resVar a.tmps (.cell t ty)).run P w = .ok (.agg ⟨C⟩) w := by have := hf.get _ _ h1; simp [resVar, this, asAddr, h3]
    simp only [List.mapM_cons, Sem.run_bind, Sem.run_pure, Result.andThen_ok, e, ih]
  | @one t b ty u s v e fr rs vs ht h1 hm _ ih =>
    have h2 : w.cell? ⟨b, 0, none⟩ = some v := by rw [hs.cellM hm]; simp
    have h3 := run_loadAt1 (P := P) (t := ty) h2
    simp only [Instr.loadAt, Instr.sureAddr, Sem.run_bind, Sem.run_pure, Result.andThen_ok] at h3
    have e : (resVar a.tmps (.cell t ty)).run P w = .ok v w := by have := hf.get _ _ h1; simp [resVar, this, asAddr, h3]
    simp only [List.mapM_cons, Sem.run_bind, Sem.run_pure, Result.andThen_ok, e, ih]
/-- the value of several results -/
def tup : List Value → Value
  | [v] => v
  | vs => .tuple ⟨vs⟩
theorem results_run {fn : Func} {a : Act} {w : World} {rs : List ResultVar} {vs : List Value} (hf : Fr L D n a) (hs : Sat w0 F M w) (hr : fn.results = rs.toArray) (h : RVs P L M rs vs) : (results fn a.tmps).run P w = .ok (tup vs) w := by
  have h1 := h.run hf hs
  have e : results fn a.tmps = (do let vs ← fn.results.mapM (resVar a.tmps); pure (if h : vs.size = 1 then vs[0] else .tuple vs)) := rfl
  rw [e, hr, List.mapM_toArray, map_eq_pure_bind]
  simp only [Sem.run_bind, h1, Result.andThen_ok, Sem.run_pure]
  match vs with
  | [] => rfl
  | [v] => rfl
  | u :: v :: vs => simp [tup]
theorem r_end {fn : Func} {F0 : FH} {rs : List ResultVar} {vs : List Value} {M2 : OM} {R : Value → FH → OM → Prop} (hr : fn.results = rs.toArray) (hv : RVs P L M rs vs) (hF : Fle F0 F) (h : R (tup vs) F M2) (hm : M2.Sublist M) : At w0 n (Rt (Done P w0 fn F0 R)) L [] F M :=
  fun _ _ hf hs => ⟨hf.defers, tup vs, results_run hf hs hr hv, tup vs, F, M2, rfl, hF, hs.sub (Fle.refl F) hm, h⟩
theorem r_endN {fn : Func} {F0 : FH} {rs : List ResultVar} {vs : List Value} {M2 : OM} {R : Value → FH → OM → Prop} (hr : fn.results = rs.toArray) (hv : RVs P L M rs vs) (hF : Fle F0 F) (h : R (tup vs) F M2) (hm : M2.Sublist M) : At w0 n (Nm (Done P w0 fn F0 R)) L [] F M :=
  fun _ _ hf hs => ⟨hf.defers, tup vs, results_run hf hs hr hv, tup vs, F, M2, rfl, hF, hs.sub (Fle.refl F) hm, h⟩

/-! slices against nil; a row that is nil; what a source reads as -/
theorem v_bin {op : BinOp} {t u : TypeId} {x y : Operand} {vx vy v : Value} (hx : ev L x = some vx) (hy : ev L y = some vy) (hg : ∀ w, (eqGuard op t x y vx vy).run P w = .ok () w) (hr : ∀ w, (Go.binOp op t vx vy).run P w = .ok v w) :
    RunV P w0 n L D F M (.binOp op t x y u) ty v := fun a w hf _ _ _ _ _ => by
  simp only [execOp, hf.eval hx, hf.eval hy, Sem.run_bind, hg, Result.andThen_ok, hr, Sem.run_pure]
theorem run_eqIn_slnil {t e : TypeId} (h : P.underlying t = some (.slice e)) (dd : Nat) (A : Option Addr) (m c : Nat) (w : World) : (Op.equalIn (dd + 1) t (.slice A m c) (.slice none 0 0)).run P w = .ok A.isNone w := by
  cases A <;> simp [Op.equalIn, run_underlying h]
theorem v_eqNilS {t u : TypeId} {x y : Operand} {A : Option Addr} {m c e s : Nat} {g : Bool} [ht : Ty P t (.slice e) s g] (hx : ev L x = some (.slice A m c)) (hy : ev L y = some (.slice none 0 0)) :
    RunV P w0 n L D F M (.binOp .eql t x y u) ty (.bool A.isNone) :=
  v_bin hx hy (fun w => by simp [eqGuard]) (fun w => by simp only [Go.binOp]; simp [Op.equal, Op.maxDepth, run_eqIn_slnil ht.und 9999])
theorem At.nilRow {KK : Act → World → Prop} (e : TypeId) (sz : Nat) (k : At w0 n KK L D F (.row none 0 0 e sz [] :: M)) : At w0 n KK L D F M := by
  intro a w hf hs
  refine k a w hf ⟨hs.os, hs.tape, hs.output, hs.size, hs.fro, fun c hc => ?_, fun c hc b hb => ?_, ?_⟩
  · rcases List.mem_cons.1 hc with rfl | hc
    · exact World.ownsRow_nil w 0 e sz
    · exact hs.own c hc
  · rcases List.mem_cons.1 hc with rfl | hc
    · simp [Ch.foot, Value.ownBlock] at hb
    · exact hs.apart c hc b hb
  · simpa [Ch.foot, Value.ownBlock] using hs.nd
/-- frozen elements as a source of append or copy -/
theorem src_flat {α : Type} {f : α → List Value} {A : Option Addr} {c sz : Nat} {xs : List α} (hr : RdA (Flat f) F sz A c xs) (hf : ∀ x ∈ xs, (f x).length = sz) (hp : 0 < sz) (w : World) (hs : Sat w0 F M w) :
    (xs.flatMap f).length = xs.length * sz ∧ (0 < xs.length → ∃ ad, A = some ad ∧ ∀ j u, (xs.flatMap f)[j]? = some u → w.cell? (ad.add j) = some u) ∧ (A = none → xs.length = 0) := by
  have hlen : (xs.flatMap f).length = xs.length * sz := by
    clear hr hs
    induction xs with
    | nil => simp
    | cons x xs ih => simp only [List.flatMap_cons, List.length_append, hf x (by simp), List.length_cons, Nat.succ_mul]; rw [ih fun y hy => hf y (by simp [hy])]; omega
  refine ⟨hlen, fun h0 => ?_, fun h0 => ?_⟩
  · obtain ⟨b, o, rfl, hh⟩ := hr.2.2.2 (fun h => by subst h; simp at h0)
    refine ⟨_, rfl, fun j u hj => ?_⟩
    rw [add_plain]
    have hjl : j < xs.length * sz := by rw [← hlen]; exact (List.getElem?_eq_some_iff.1 hj).1
    have hi : j / sz < xs.length := Nat.div_lt_of_lt_mul (by rw [Nat.mul_comm]; exact hjl)
    obtain ⟨cs, h1, h2, h3⟩ := hh (j / sz) _ (List.getElem?_eq_getElem hi)
    have hmod := Nat.mod_lt j hp
    have hcell : (f xs[j / sz])[j % sz]? = some u := by
      have key : ∀ (xs : List α), (∀ x ∈ xs, (f x).length = sz) → ∀ j (hi : j / sz < xs.length), (xs.flatMap f)[j]? = (f xs[j / sz])[j % sz]? := by
        intro xs
        induction xs with
        | nil => intro _ j hi; simp at hi
        | cons x xs ih =>
          intro hf j hi
          simp only [List.flatMap_cons]
          rcases Nat.lt_or_ge j sz with hlt | hge
          · rw [List.getElem?_append_left (by rw [hf x (by simp)]; exact hlt)]
            simp [Nat.div_eq_of_lt hlt, Nat.mod_eq_of_lt hlt]
          · rw [List.getElem?_append_right (by rw [hf x (by simp)]; exact hge), hf x (by simp)]
            have e1 : j / sz = (j - sz) / sz + 1 := by rw [Nat.div_eq_sub_div hp hge]
            have e2 : j % sz = (j - sz) % sz := Nat.mod_eq_sub_mod hge
            simp only [e1, List.length_cons] at hi
            rw [ih (fun y hy => hf y (by simp [hy])) (j - sz) (by omega), e2]
            simp only [e1, List.getElem_cons_succ]
      rw [← key xs hf j hi]; exact hj
    have e3 : cs = f xs[j / sz] := h3
    subst e3
    have := hs.cellF h2 (j % sz) u hcell
    have e4 : o + j = o + j / sz * sz + j % sz := by have := Nat.div_add_mod j sz; rw [Nat.mul_comm] at this; omega
    rw [e4]; exact this
  · have := hr.2.2.1 h0
    have := hr.1
    omega
/-- the cells of one element -/
theorem sub_flatMap {α : Type} (f : α → List Value) (sz : Nat) : ∀ (xs : List α), (∀ x ∈ xs, (f x).length = sz) → ∀ i x, xs[i]? = some x → sub (xs.flatMap f) (i * sz) sz = f x := by
  intro xs
  induction xs with
  | nil => intro _ i x h; simp at h
  | cons y xs ih =>
    intro hf i x h
    have hy := hf y (by simp)
    cases i with
    | zero =>
      simp only [List.getElem?_cons_zero, Option.some.injEq] at h
      subst h
      simp only [sub, List.flatMap_cons, Nat.zero_mul, List.drop_zero]
      rw [← hy, List.take_left]
    | succ i =>
      simp only [List.getElem?_cons_succ] at h
      have := ih (fun z hz => hf z (by simp [hz])) i x h
      simp only [sub, List.flatMap_cons] at this ⊢
      rw [Nat.succ_mul, Nat.add_comm, ← List.drop_drop, ← hy, List.drop_left, hy]
      exact this
theorem At.freezeFlat {α : Type} (f : α → List Value) {KK : Act → World → Prop} {A : Option Addr} {c sz : Nat} {e : TypeId} {xs : List α} {m : Nat} {M1 : OM} (hd : Del M (.row A m c e sz (xs.flatMap f)) M1) (hm : xs.length = m) (hf : ∀ x ∈ xs, (f x).length = sz)
    (k : ∀ F', Fle F F' → RdA (Flat f) F' sz A c xs → At w0 n KK L D F' M1) : At w0 n KK L D F M :=
  At.freezeRow hd fun F' hl h => k F' hl (h (Flat f) xs hm fun i x hx => sub_flatMap f sz xs hf i x hx)
/-- a row of one element -/
theorem At.freezeOne {α : Type} (R : FH → α → List Value → Prop) {KK : Act → World → Prop} {A : Option Addr} {c sz : Nat} {e : TypeId} {cs : List Value} (x : α) {M1 : OM} (hd : Del M (.row A 1 c e sz cs) M1) (hs : cs.length = sz)
    (k : ∀ F', Fle F F' → (R F' x cs → RdA R F' sz A c [x]) → At w0 n KK L D F' M1) : At w0 n KK L D F M :=
  At.freezeRow hd fun F' hl h => k F' hl fun hR => h R [x] rfl fun i y hy => by
    cases i with
    | zero =>
      simp only [List.getElem?_cons_zero, Option.some.injEq] at hy
      subst hy
      have : sub cs (0 * sz) sz = cs := by simp [sub, ← hs]
      rw [this]; exact hR
    | succ i => simp at hy
/-- a chunk comes to the front -/
theorem At.front {KK : Act → World → Prop} {c : Ch} {M1 : OM} (hd : Del M c M1) (k : At w0 n KK L D F (c :: M1)) : At w0 n KK L D F M := fun a w hf hs => by
  obtain ⟨l1, l2, rfl, rfl⟩ := hd.split
  exact k a w hf hs.front
/-- an owned row as a source -/
theorem src_own {b m c : Nat} {e : TypeId} {sz : Nat} {xs : List Value} (hm : Has M (.row (some ⟨b, 0, none⟩) m c e sz xs)) (w : World) (hs : Sat w0 F M w) :
    xs.length = m * sz ∧ (0 < m → ∃ ad, some (⟨b, 0, none⟩ : Addr) = some ad ∧ ∀ j u, xs[j]? = some u → w.cell? (ad.add j) = some u) ∧ (some (⟨b, 0, none⟩ : Addr) = none → m = 0) := by
  have hown : (Ch.row (some ⟨b, 0, none⟩) m c e sz xs).ok w := hs.own _ hm.mem
  refine ⟨hown.1, fun _ => ⟨_, rfl, fun j u hj => ?_⟩, fun h => by cases h⟩
  rw [add_plain]
  simpa using hs.cellR hm j u hj
end
end Go.Sx
