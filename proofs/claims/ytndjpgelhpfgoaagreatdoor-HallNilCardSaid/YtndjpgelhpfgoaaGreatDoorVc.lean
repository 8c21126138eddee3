/-
  Part of the proof by an abstract machine (OpsC OpsD): what each theorem says stands at it; it asks what its own hypotheses say.
-/
import Derived.Test.YtndjpgelhpfgoaaGreatDoorVb
import Derived.ChangeKeysEq
namespace Go.VM
open Go

section
variable {P : Program} {σ : Nat → Loc} {D : Nat → Prop} {s s' : S} {w : World} {a : Act} {tm : T AV}

theorem num_bok (t : TypeId) {neg : Bool} {x y v : AV} {vx vy : Value} (h : bNum neg x y = some v) (hx : R σ D x vx) (hy : R σ D y vy) :
    BOk P (if neg then .neq else .eql) t σ D v vx vy := by
  cases neg with
  | false =>
    exact cmpV_ok t eql_ok (fun x y bx by_ => by simp only [binOp, Op.stringOp]; rw [enc_toList, enc_toList, eqS_ok bx by_]) h hx hy
  | true =>
    exact cmpV_ok t neq_ok (fun x y bx by_ => by simp only [binOp, Op.stringOp]; rw [enc_toList, enc_toList, eqS_ok bx by_]) h hx hy

theorem cmpS_lss (t : TypeId) {x y v : AV} {vx vy : Value} (h : cmpV fLss gLss ltS x y = some v) (hx : R σ D x vx) (hy : R σ D y vy) : BOk P .lss t σ D v vx vy :=
  cmpV_ok t lss_ok (fun x y bx by_ => by simp only [binOp, Op.stringOp]; rw [enc_toList, enc_toList, ltS_ok bx by_]) h hx hy
theorem cmpS_leq (t : TypeId) {x y v : AV} {vx vy : Value} (h : cmpV fLeq gLeq (fun a b => ltS a b || eqS a b) x y = some v) (hx : R σ D x vx) (hy : R σ D y vy) : BOk P .leq t σ D v vx vy :=
  cmpV_ok t leq_ok (fun x y bx by_ => by simp only [binOp, Op.stringOp]; rw [enc_toList, enc_toList, ltS_ok bx by_, eqS_ok bx by_]) h hx hy
theorem cmpS_gtr (t : TypeId) {x y v : AV} {vx vy : Value} (h : cmpV fGtr gGtr (fun a b => !(ltS a b || eqS a b)) x y = some v) (hx : R σ D x vx) (hy : R σ D y vy) : BOk P .gtr t σ D v vx vy :=
  cmpV_ok t gtr_ok (fun x y bx by_ => by simp only [binOp, Op.stringOp]; rw [enc_toList, enc_toList, ltS_ok bx by_, eqS_ok bx by_]) h hx hy
theorem cmpS_geq (t : TypeId) {x y v : AV} {vx vy : Value} (h : cmpV fGeq gGeq (fun a b => !ltS a b) x y = some v) (hx : R σ D x vx) (hy : R σ D y vy) : BOk P .geq t σ D v vx vy :=
  cmpV_ok t geq_ok (fun x y bx by_ => by simp only [binOp, Op.stringOp]; rw [enc_toList, enc_toList, ltS_ok bx by_]) h hx hy

/-- all binary operations but the two of equality -/
theorem binV_ok (op : BinOp) (t : TypeId) {x y v : AV} {vx vy : Value} (h : binV op x y = some v) (hx : R σ D x vx) (hy : R σ D y vy) : BOk P op t σ D v vx vy := by
  cases op with
  | add => exact add_bok t h hx hy
  | sub => exact BOk.of_arith t sub_ok h hx hy
  | mul => exact BOk.of_arith t mul_ok h hx hy
  | quo => exact BOk.of_arith t quo_ok h hx hy
  | rem => exact BOk.of_arith t rem_ok h hx hy
  | and => exact BOk.of_arith t and_ok h hx hy
  | or => exact BOk.of_arith t or_ok h hx hy
  | xor => exact BOk.of_arith t xor_ok h hx hy
  | shl => exact shl_bok t h hx hy
  | shr => exact shr_bok t h hx hy
  | andNot => exact BOk.of_arith t andNot_ok h hx hy
  | eql => simp [binV] at h
  | neq => simp [binV] at h
  | lss => exact cmpS_lss t h hx hy
  | leq => exact cmpS_leq t h hx hy
  | gtr => exact cmpS_gtr t h hx hy
  | geq => exact cmpS_geq t h hx hy

/-! equality -/

theorem eqItems_ok {e : TypeId} {k' : IntKind} (d : Nat) (he : P.underlying e = some (.int k')) (lx ly : List Value) (w : World) :
    ∀ (m j : Nat) (x y : List AV) (b : Bool), Rs σ D x (lx.drop j) → Rs σ D y (ly.drop j) → x.length = m → y.length = m → eqIs x y = some b →
      (Op.eqItems (d + 1) e 1 ⟨lx⟩ ⟨ly⟩ (List.range' j m)).run P w = .ok b w
  | 0, j, x, y, b, hx, hy, h1, h2, h => by
    obtain rfl := List.length_eq_zero_iff.1 h1
    obtain rfl := List.length_eq_zero_iff.1 h2
    simp [eqIs] at h; subst h
    simp [Op.eqItems]
  | m + 1, j, x, y, b, hx, hy, h1, h2, h => by
    cases x with
    | nil => simp at h1
    | cons p x =>
      cases y with
      | nil => simp at h2
      | cons q y =>
        have e1 : ∃ u, lx[j]? = some u ∧ R σ D p u ∧ Rs σ D x (lx.drop (j + 1)) := by
          generalize hd : lx.drop j = l at hx
          cases hx with
          | cons _ u _ r h3 h4 =>
            refine ⟨u, ?_, h3, ?_⟩
            · have := congrArg List.head? hd; rw [List.head?_drop] at this; simpa using this
            · have := congrArg List.tail hd; rw [List.tail_drop] at this; rw [this]; exact h4
        have e2 : ∃ u, ly[j]? = some u ∧ R σ D q u ∧ Rs σ D y (ly.drop (j + 1)) := by
          generalize hd : ly.drop j = l at hy
          cases hy with
          | cons _ u _ r h3 h4 =>
            refine ⟨u, ?_, h3, ?_⟩
            · have := congrArg List.head? hd; rw [List.head?_drop] at this; simpa using this
            · have := congrArg List.tail hd; rw [List.tail_drop] at this; rw [this]; exact h4
        obtain ⟨u, hu, ru, hx'⟩ := e1
        obtain ⟨v, hv, rv, hy'⟩ := e2
        unfold eqIs at h
        split at h
        · rename_i heq1 heq2; simp at heq1
        · rename_i k a x2 k2 b2 y2 heq1 heq2
          simp only [List.cons.injEq] at heq1 heq2
          obtain ⟨rfl, rfl⟩ := heq1
          obtain ⟨rfl, rfl⟩ := heq2
          cases ru; cases rv
          cases hk : kEq k k2 with
          | false => rw [hk] at h; simp at h
          | true =>
            have hkk := kEq_eq hk
            subst hkk
            have hp : ∀ (l : List Value) (z : Value), l[j]? = some z → (part e ⟨l⟩ (j * 1)).run P w = .ok z w := fun l z hz => by
              simp only [part, Sem.run_bind, run_agg he, Result.andThen_ok, isAggD, Nat.mul_one]
              simp [hz]
            have hq : (Op.equalIn (d + 1) e (.int k a) (.int k b2)).run P w = .ok (a == b2) w := by
              simp only [Op.equalIn, Sem.run_bind, run_und he, Result.andThen_ok]
              simp
            rw [List.range'_succ]
            simp only [Op.eqItems, Sem.run_bind, hp _ _ hu, hp _ _ hv, Result.andThen_ok, hq]
            rw [hk] at h
            simp only [ieq_eq] at h
            cases hab : a == b2 with
            | false => rw [hab] at h; simp at h; subst h; simp
            | true =>
              rw [hab] at h
              simp only [Bool.not_true, Bool.false_eq_true, if_false]
              exact eqItems_ok d he lx ly w m (j + 1) x y b hx' hy' (by simpa using h1) (by simpa using h2) h
        · simp at h

theorem equal_run {t : TypeId} {x y : Value} {b : Bool} (h : ∀ d w, (Op.equalIn (d + 1 + 1) t x y).run P w = .ok b w) (w : World) : (Op.equal t x y).run P w = .ok b w := h 9998 w

theorem eql_run {t : TypeId} {x y : Value} {b : Bool} (hsh : ∀ op, binOp op t x y = match op with | .eql => (do pure (.bool (← Op.equal t x y))) | .neq => (do pure (.bool (!(← Op.equal t x y)))) | _ => binOp op t x y)
    (h : ∀ d w, (Op.equalIn (d + 1 + 1) t x y).run P w = .ok b w) (neg : Bool) (w : World) : (binOp (if neg then .neq else .eql) t x y).run P w = .ok (.bool (if neg then !b else b)) w := by
  cases neg with
  | false => simp only [Bool.false_eq_true, if_false]; rw [hsh]; simp [equal_run h]
  | true => simp only [if_true]; rw [hsh]; simp [equal_run h]

set_option maxHeartbeats 2000000 in
/-- what stands before a test of equality lets it by, and the test -/
theorem eqW_ok {k : EqK} {t : TypeId} {x y : AV} {vx vy : Value} {ox oy : Operand} {b : Bool} (hk : eqKind P t ox oy = some k) (hnum : k ≠ .num) (h : eqW k x y = some b) (hx : R σ D x vx) (hy : R σ D y vy) (neg : Bool) (w : World) :
    (eqGuard (if neg then .neq else .eql) t ox oy vx vy).run P w = .ok () w ∧ (binOp (if neg then .neq else .eql) t vx vy).run P w = .ok (.bool (if neg then !b else b)) w := by
  unfold eqKind at hk
  have hg0 : ∀ (vx vy : Value), (∀ cs ds, ¬ (vx = .agg cs ∧ vy = .agg ds)) → ¬ (vx = .nilIface ∧ vy = .nilIface) → (eqGuard (if neg then .neq else .eql) t ox oy vx vy).run P w = .ok () w := by
    intro vx vy h1 h2
    unfold eqGuard
    have : (match (if neg then BinOp.neq else .eql) with | .eql | .neq => true | _ => false) = true := by cases neg <;> rfl
    cases neg <;> (simp only [Bool.false_eq_true, if_false, if_true, Bool.not_true]; split <;> first | rfl | (rename_i e1 e2; exact absurd ⟨rfl, rfl⟩ h2) | (exact absurd ⟨rfl, rfl⟩ (h1 _ _)))
  split at hk
  all_goals try (simp at hk; done)
  all_goals try (simp at hk; exact absurd hk.symm hnum)
  · -- bool
    rename_i hu
    simp at hk; subst hk
    unfold eqW at h
    split at h <;> first | (simp at h; done) | skip
    all_goals try (rename_i h0; cases h0; done)
    simp at h; subst h
    cases hx; cases hy
    refine ⟨hg0 _ _ (by intro _ _ h; cases h.1) (by intro h; cases h.1), eql_run (fun op => by cases op <;> rfl) (fun d w => ?_) neg w⟩
    simp only [Op.equalIn, Sem.run_bind, run_und hu, Result.andThen_ok]; rfl
  · -- ptr
    rename_i e hu
    simp at hk; subst hk
    unfold eqW at h
    split at h <;> first | (simp at h; done) | skip
    all_goals try (rename_i h0; cases h0; done)
    all_goals
      simp at h; subst h
      cases hx; cases hy
      refine ⟨hg0 _ _ (by intro _ _ h; cases h.1) (by intro h; cases h.1), eql_run (fun op => by cases op <;> rfl) (fun d w => ?_) neg w⟩
      simp only [Op.equalIn, Sem.run_bind, run_und hu, Result.andThen_ok]; rfl
  · -- slices
    rename_i e hu
    simp at hk; subst hk
    unfold eqW at h
    split at h <;> first | (simp at h; done) | skip
    all_goals try (rename_i h0; cases h0; done)
    all_goals
      simp at h; subst h
      cases hx; cases hy
      refine ⟨hg0 _ _ (by intro _ _ h; cases h.1) (by intro h; cases h.1), eql_run (fun op => by cases op <;> rfl) (fun d w => ?_) neg w⟩
      simp only [Op.equalIn, Sem.run_bind, run_und hu, Result.andThen_ok]; rfl
  · -- maps
    rename_i e e' hu
    simp at hk; subst hk
    unfold eqW at h
    split at h <;> first | (simp at h; done) | skip
    all_goals try (rename_i h0; cases h0; done)
    all_goals
      simp at h; subst h
      cases hx; cases hy
      refine ⟨hg0 _ _ (by intro _ _ h; cases h.1) (by intro h; cases h.1), eql_run (fun op => by cases op <;> rfl) (fun d w => ?_) neg w⟩
      simp only [Op.equalIn, Sem.run_bind, run_und hu, Result.andThen_ok]; rfl
  · -- functions
    rename_i e e' e'' hu
    simp at hk; subst hk
    unfold eqW at h
    split at h <;> first | (simp at h; done) | skip
    all_goals try (rename_i h0; cases h0; done)
    all_goals
      simp at h; subst h
      cases hx; cases hy
      refine ⟨hg0 _ _ (by intro _ _ h; cases h.1) (by intro h; cases h.1), eql_run (fun op => by cases op <;> rfl) (fun d w => ?_) neg w⟩
      simp only [Op.equalIn, Sem.run_bind, run_und hu, Result.andThen_ok]; rfl
  · -- interfaces
    rename_i ms hu
    cases hc : isC ox || isC oy with
    | false => rw [hc] at hk; simp at hk
    | true =>
      rw [hc] at hk; simp at hk; subst hk
      have hgn : (eqGuard (if neg then .neq else .eql) t ox oy .nilIface .nilIface).run P w = .ok () w := by
        unfold eqGuard
        cases neg <;> simp only [Bool.false_eq_true, if_false, if_true, Bool.not_true] <;>
          (cases ox <;> cases oy <;> first | rfl | (simp [isC] at hc))
      unfold eqW at h
      split at h <;> first | (simp at h; done) | skip
      all_goals try (rename_i h0; cases h0; done)
      all_goals
        simp at h; subst h
        cases hx; cases hy
        refine ⟨by first | exact hgn | exact hg0 _ _ (by intro _ _ h; cases h.1) (by simp), eql_run (fun op => by cases op <;> rfl) (fun d w => ?_) neg w⟩
        simp only [Op.equalIn, Sem.run_bind, run_und hu, Result.andThen_ok]; rfl
  · -- arrays
    rename_i n e hu
    split at hk
    · rename_i k' i he hi
      cases hc : Nat.beq i.size 1 && !(P.eqGuardType P.depth t) with
      | false => rw [hc] at hk; simp at hk
      | true =>
        rw [hc] at hk; simp at hk; subst hk
        rw [Bool.and_eq_true] at hc
        have hsz : i.size = 1 := Nat.eq_of_beq_eq_true hc.1
        have hgt : P.eqGuardType P.depth t = false := by simpa using hc.2
        unfold eqW at h
        split at h <;> first | (simp at h; done) | skip
        all_goals try (rename_i h0; cases h0; done)
        rename_i n' xs ys h0
        cases h0
        cases hl : Nat.beq xs.length n && Nat.beq ys.length n with
        | false => rw [hl] at h; simp at h
        | true =>
          rw [hl] at h
          rw [Bool.and_eq_true] at hl
          have hl1 := Nat.eq_of_beq_eq_true hl.1
          have hl2 := Nat.eq_of_beq_eq_true hl.2
          cases hx with
          | agg _ lx hx =>
            cases hy with
            | agg _ ly hy =>
              refine ⟨run_eqGuard_agg _ _ _ _ _ _ _ hgt, eql_run (fun op => by cases op <;> rfl) (fun d w => ?_) neg w⟩
              rw [run_equalIn_array w (d + 1) _ _ hu hi, cellsOf_eq hi, hsz, List.range_eq_range']
              exact eqItems_ok d he lx ly w n 0 xs ys b (by simpa using hx) (by simpa using hy) hl1 hl2 h
    · simp at hk
end
end Go.VM

namespace Go.VM
open Go

section
variable {P : Program} {σ : Nat → Loc} {D : Nat → Prop} {s s' : S} {w : World} {a : Act} {tm : T AV} {v : AV} {o : Oper}

theorem val_inj {v v' : AV} {s s' : S} (h : Nx.val v s = .val v' s') : v = v' ∧ s = s' := by injection h with h1 h2; exact ⟨h1, h2⟩

theorem op_move {x : Operand} (ho : o.op = .move x ∨ o.op = .assign x) (hop : rMov (cOpd x) tm s = .val v s') (hw : RW P σ D s w) (ht : Rt σ D tm a.tmps) :
    Res P σ D s w v s' ((execOp a.eval o).run P w) := by
  obtain ⟨rfl, rfl⟩ := val_inj hop
  have : (execOp a.eval o).run P w = .ok (.value (a.eval x)) w := by rcases ho with ho | ho <;> simp only [execOp, ho] <;> rfl
  rw [this]
  exact Res.pure hw (ev ht x)

theorem bool_of {b : Bool} {v : Value} (h : R σ D (.bool b) v) : v = .bool b := by cases h; rfl

theorem op_pick {c x y : Operand} (ho : o.op = .pick c x y) (hop : rPick (cOpd c) (cOpd x) (cOpd y) tm s = .val v s') (hw : RW P σ D s w) (ht : Rt σ D tm a.tmps) :
    Res P σ D s w v s' ((execOp a.eval o).run P w) := by
  have hc := ev ht c
  unfold rPick at hop
  split at hop
  · rename_i t he
    rw [he] at hc
    have hcv := bool_of hc
    have hrun : (execOp a.eval o).run P w = .ok (.value (if t then a.eval x else a.eval y)) w := by
      simp only [execOp, ho, Sem.run_bind, hcv, asBool, Sem.run_pure, Result.andThen_ok]
    rw [hrun]
    cases t with
    | true => obtain ⟨rfl, rfl⟩ := val_inj hop; exact Res.pure hw (ev ht x)
    | false => obtain ⟨rfl, rfl⟩ := val_inj hop; exact Res.pure hw (ev ht y)
  · simp at hop

theorem op_alloc {e : TypeId} (ho : o.op = .alloc e) (hop : runOp (cOp P (.alloc e)) tm s = .val v s') (hw : RW P σ D s w) (hoff : Off D s.nx s'.nx) :
    Res P σ D s w v s' ((execOp a.eval o).run P w) := by
  simp only [cOp] at hop
  cases hi : tyI P e with
  | none => simp [hi, orBad, runOp, rNo] at hop
  | some i =>
    simp only [hi, orBad, Option.bind_eq_bind, Option.bind_some, Option.getD_some, pure, runOp, rAlloc] at hop
    obtain ⟨j, z, h1, h2, h3, h4, h5, h6⟩ := tyI_ok hi
    obtain ⟨rfl, rfl⟩ := newB_ok hop
    rw [newS_nx] at hoff
    have hr : Rs σ D i.zero.cells z.cells.toList := by rw [h6]; exact (toAV_ok σ D z).cells
    have hrun : (execOp a.eval o).run P w = .ok (.value (.pointer (some ⟨w.heap.size, 0, none⟩))) { w with heap := w.heap.push (.cells z.cells e) } := by
      simp only [execOp, ho, Instr.alloc, Sem.run_bind, run_zer h2 h3, Result.andThen_ok]
      rfl
    rw [hrun]
    exact Res.newVar hw hoff hr rfl

theorem op_box {e : TypeId} {x : Operand} (ho : o.op = .box e x) (hop : rBox e (cOpd x) tm s = .val v s') (hw : RW P σ D s w) (ht : Rt σ D tm a.tmps) (hoff : Off D s.nx s'.nx) :
    Res P σ D s w v s' ((execOp a.eval o).run P w) := by
  unfold rBox at hop
  obtain ⟨rfl, rfl⟩ := newB_ok hop
  have hr := (ev ht x).cells
  have hrun : (execOp a.eval o).run P w = .ok (.value (.pointer (some ⟨w.heap.size, 0, none⟩))) { w with heap := w.heap.push (.cells (a.eval x).cells e) } := by
    simp only [execOp, ho]
    rfl
  rw [hrun]
  exact Res.newVar hw hoff hr rfl

theorem op_load {t : TypeId} {x : Operand} (ho : o.op = .load t x) (hop : runOp (cOp P (.load t x)) tm s = .val v s') (hw : RW P σ D s w) (ht : Rt σ D tm a.tmps) :
    Res P σ D s w v s' ((execOp a.eval o).run P w) := by
  simp only [cOp] at hop
  cases hd : P.underlying t with
  | none => simp [hd, orBad, runOp, rNo] at hop
  | some d =>
    obtain ⟨i, hi⟩ := und_inf hd
    simp only [hd, hi, orBad, Option.bind_eq_bind, Option.bind_some, Option.getD_some, pure, runOp, rLoad] at hop
    have hx := ev ht x
    split at hop
    · rename_i b o' he
      rw [he] at hx
      obtain ⟨hxv, _⟩ := ptr_of hx
      have key : ∀ y, (match isAggD d with | true => (match loadN s b o' i.size with | some cs => some (AV.agg cs) | none => none) | false => load1 s b o') = some y → v = y → s' = s → Res P σ D s w v s' ((execOp a.eval o).run P w) := by
        rintro y hy rfl rfl
        obtain ⟨z, hrun, hr⟩ := run_loadVar hd hi hw rfl hy
        have : (execOp a.eval o).run P w = .ok (.value z) w := by
          simp only [execOp, ho, Instr.loadAt, hxv, Instr.sureAddr, Sem.run_bind, Sem.run_pure, Result.andThen_ok]
          rw [hrun]; rfl
        rw [this]
        exact Res.pure hw hr
      cases hg : isAggD d with
      | true =>
        rw [hg] at hop
        simp only at hop
        cases hl : loadN s b o' i.size with
        | none => rw [hl] at hop; simp at hop
        | some cs =>
          rw [hl] at hop
          obtain ⟨rfl, rfl⟩ := val_inj hop
          exact key _ (by rw [hg, hl]) rfl rfl
      | false =>
        rw [hg] at hop
        simp only at hop
        obtain ⟨hs, hv⟩ := valO_syn hop
        exact key v (by rw [hg]; exact hv) rfl hs
    · simp at hop

theorem op_store {t : TypeId} {x y : Operand} (ho : o.op = .store t x y) (hop : runOp (cOp P (.store t x y)) tm s = .val v s') (hw : RW P σ D s w) (ht : Rt σ D tm a.tmps) :
    Res P σ D s w v s' ((execOp a.eval o).run P w) := by
  simp only [cOp] at hop
  cases hi : P.info? t with
  | none => simp [hi, orBad, runOp, rNo] at hop
  | some i =>
    simp only [hi, orBad, Option.bind_eq_bind, Option.bind_some, Option.getD_some, pure, runOp, rStore] at hop
    have hx := ev ht x
    split at hop
    · rename_i b o' he
      rw [he] at hx
      obtain ⟨hxv, _⟩ := ptr_of hx
      split at hop
      · rename_i hlen
        split at hop
        · rename_i s1 hs
          obtain ⟨rfl, rfl⟩ := val_inj hop
          obtain ⟨w', hrun, hst⟩ := run_storeVar hi hw rfl (ev ht y) (Nat.eq_of_beq_eq_true hlen) hs
          have : (execOp a.eval o).run P w = .ok .skip w' := by
            simp only [execOp, ho, Instr.storeAt, hxv, Instr.sureAddr, Sem.run_bind, Sem.run_pure, Result.andThen_ok]
            rw [hrun]; rfl
          rw [this]
          exact ⟨_, _, _, rfl, .inr ⟨rfl, rfl⟩, hst⟩
        · simp at hop
      · simp at hop
    · simp at hop

theorem op_nilck {x : Operand} (ho : o.op = .nilCheck x) (hop : rNilck (cOpd x) tm s = .val v s') (hw : RW P σ D s w) (ht : Rt σ D tm a.tmps) :
    Res P σ D s w v s' ((execOp a.eval o).run P w) := by
  have hx := ev ht x
  unfold rNilck at hop
  split at hop
  all_goals try (simp at hop; done)
  all_goals
    rename_i he
    rw [he] at hx
    obtain ⟨rfl, rfl⟩ := val_inj hop
    have hrun : (execOp a.eval o).run P w = .ok (.value (a.eval x)) w := by
      simp only [execOp, ho]
      generalize a.eval x = y at hx
      cases hx; rfl
    rw [hrun]
    exact Res.pure hw hx

theorem op_bin {op : BinOp} {t t' : TypeId} {x y : Operand} (ho : o.op = .binOp op t x y t') (hne : op ≠ .eql) (hne' : op ≠ .neq) (hop : rBin op (cOpd x) (cOpd y) tm s = .val v s') (hw : RW P σ D s w) (ht : Rt σ D tm a.tmps) :
    Res P σ D s w v s' ((execOp a.eval o).run P w) := by
  unfold rBin at hop
  obtain ⟨rfl, hv⟩ := valO_syn hop
  obtain ⟨z, hz, hr⟩ := binV_ok (P := P) op t hv (ev ht x) (ev ht y)
  have hrun : (execOp a.eval o).run P w = .ok (.value z) w := by
    simp only [execOp, ho, Sem.run_bind]
    have : (eqGuard op t x y (a.eval x) (a.eval y)).run P w = .ok () w := by
      unfold eqGuard; cases op <;> first | rfl | exact absurd rfl hne | exact absurd rfl hne'
    rw [this]
    simp only [Result.andThen_ok]
    rw [hz]; rfl
  rw [hrun]
  exact Res.pure hw hr

theorem op_eq {neg : Bool} {op : BinOp} (hop' : op = if neg then .neq else .eql) {t t' : TypeId} {x y : Operand} {k : EqK} (ho : o.op = .binOp op t x y t') (hk : eqKind P t x y = some k) (hop : rEq neg k (cOpd x) (cOpd y) tm s = .val v s') (hw : RW P σ D s w) (ht : Rt σ D tm a.tmps) :
    Res P σ D s w v s' ((execOp a.eval o).run P w) := by
  subst hop'
  unfold rEq at hop
  obtain ⟨rfl, hv⟩ := valO_syn hop
  have hx := ev ht x
  have hy := ev ht y
  have key : ∀ z, (eqGuard (if neg then .neq else .eql) t x y (a.eval x) (a.eval y)).run P w = .ok () w → (binOp (if neg then .neq else .eql) t (a.eval x) (a.eval y)).run P w = .ok z w → R σ D v z → Res P σ D s' w v s' ((execOp a.eval o).run P w) := by
    intro z h1 h2 h3
    have hrun : (execOp a.eval o).run P w = .ok (.value z) w := by
      simp only [execOp, ho, Sem.run_bind, h1, h2, Result.andThen_ok, Sem.run_pure]
    rw [hrun]; exact Res.pure hw h3
  unfold eqR at hv
  split at hv
  · obtain ⟨z, hz, hr⟩ := num_bok (P := P) t hv hx hy
    refine key z ?_ (hz w) hr
    -- two numbers or two texts: nothing is asked
    unfold bNum cmpV at hv
    have hshape : (∃ k p q, a.eval x = .int k p ∧ a.eval y = .int k q) ∨ (∃ p q, a.eval x = .string p ∧ a.eval y = .string q) := by
      cases neg with
      | false =>
        simp only at hv
        split at hv
        · split at hv
          · rename_i h1 h2 _ _ h3
            rw [h2] at hx; rw [h3] at hy
            exact .inr ⟨_, _, (str_of hx).1, (str_of hy).1⟩
          · simp at hv
        · obtain ⟨k, p, q, z, e1, e2, _⟩ := arith_ok eql_ok hv hx hy
          exact .inl ⟨k, p, q, e1, e2⟩
      | true =>
        simp only at hv
        split at hv
        · split at hv
          · rename_i h1 h2 _ _ h3
            rw [h2] at hx; rw [h3] at hy
            exact .inr ⟨_, _, (str_of hx).1, (str_of hy).1⟩
          · simp at hv
        · obtain ⟨k, p, q, z, e1, e2, _⟩ := arith_ok neq_ok hv hx hy
          exact .inl ⟨k, p, q, e1, e2⟩
    unfold eqGuard
    rcases hshape with ⟨k, p, q, e1, e2⟩ | ⟨p, q, e1, e2⟩ <;> rw [e1, e2] <;> cases neg <;> rfl
  · rename_i k' hne
    split at hv
    · rename_i b hb
      obtain ⟨h1, h2⟩ := eqW_ok hk (fun e => hne e) hb hx hy neg w
      cases neg with
      | false => have e := boolO_eq hv; subst e; exact key _ h1 h2 (.bool _)
      | true => have e := boolO_eq hv; subst e; exact key _ h1 h2 (.bool _)
    · simp at hv
end
end Go.VM

