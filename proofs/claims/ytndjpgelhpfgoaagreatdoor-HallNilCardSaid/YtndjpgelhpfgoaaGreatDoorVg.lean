/-
  Part of the proof by an abstract machine (Reg Exec Call SynX Round Range Loc): what each theorem says stands at it; it asks what its own hypotheses say.
-/
import Derived.Test.YtndjpgelhpfgoaaGreatDoorVf
import Derived.RangeFuncLeaves
import Derived.TacticsIn
namespace Go.VM
open Go

/-- the fence: all functions; frames of the round r -/
def Fn (r : Option Nat) : Fence := { fn := fun _ => True, depth := none, alive := false, round := r }

section
variable {P : Program} {σ : Nat → Loc} {D : Nat → Prop} {s s' : S} {w : World} {a : Act} {tm : T AV} {v : AV} {o : Oper}

/-- what a call, an operation leaves -/
def Aft (P : Program) (σ : Nat → Loc) (D : Nat → Prop) (s : S) (w : World) (v : AV) (s' : S) (y : Value) (w' : World) : Prop :=
  ∃ σ', Stp P σ D s w σ' s' w' ∧ R σ' (Up D s.nx s'.nx) v y

def Called (P : Program) (f : FuncId) (l : List Value) (w : World) (K : Value → World → Prop) : Prop :=
  (∃ y w', (callFunc f ⟨l⟩).run P w = .ok (.value y) w' ∧ (∀ b x y, Value.func (.yield b) x y ∉ l) ∧ K y w') ∨
  ((callFunc f ⟨l⟩).run P w = .ok (.enter f ⟨l⟩) w ∧ CallsIn (Fn none) 0 P f ⟨l⟩ w (fun e w' => ∃ y, e = .returned y ∧ K y w'))

def SCall (P : Program) (r : Rec) : Prop := ∀ f args s v s', r.call f args s = .ok v s' → Syn s s' ∧
  ∀ σ D w l, RW P σ D s w → Rs σ D args l → Off D s.nx s'.nx → Called P f l w (Aft P σ D s w v s')

def SRound (P : Program) (r : Rec) : Prop := ∀ lb args s v s', r.round lb args s = .ok v s' → Syn s s' ∧
  ∀ σ D w m, RW P σ D s w → Rs σ D args m → Off D s.nx s'.nx → ∃ fn tmps asg body, (Instr.yield (σ lb).blk ⟨m⟩).run P w = .ok (.round (σ lb).blk fn tmps asg body) w ∧
    RoundIn (Fn none) 0 P (σ lb).blk fn tmps asg body w (fun e w' => ∃ y, e = .returned y ∧ Aft P σ D s w v s' y w')

/-- one operation of a region -/
def Op1 (r : Rec) (o : AOpr) (tm : T AV) (s : S) (v : AV) (s' : S) : Prop :=
  (wanted o.guard tm = some false ∧ v = .tup [] ∧ s' = s) ∨
  (wanted o.guard tm = some true ∧ (runOp o.op tm s = .val v s' ∨ (∃ f args, runOp o.op tm s = .call f args ∧ r.call f args s = .ok v s') ∨
    ∃ l args, runOp o.op tm s = .yld l args ∧ r.round l args s = .ok v s'))

theorem op1_inv {r : Rec} {o : AOpr} {tm tm' : T AV} (h : op1 r o tm s = .ok tm' s') : ∃ v, tm' = putD o.dst tm v ∧ Op1 r o tm s v s' := by
  obtain ⟨dst, op, g, pred, mem⟩ := o
  simp only [op1] at h
  split at h
  · simp at h
  · rename_i w hw
    split at h
    · simp only [RT.ok.injEq] at h
      exact ⟨_, h.1.symm, .inl ⟨hw, rfl, h.2.symm⟩⟩
    · split at h
      · simp at h
      · rename_i v s1 hr
        simp only [RT.ok.injEq] at h
        obtain ⟨h1, rfl⟩ := h
        exact ⟨v, h1.symm, .inr ⟨hw, .inl hr⟩⟩
      · rename_i f args hr
        split at h
        · simp at h
        · rename_i v s1 hc
          simp only [RT.ok.injEq] at h
          obtain ⟨h1, rfl⟩ := h
          exact ⟨v, h1.symm, .inr ⟨hw, .inr (.inl ⟨f, args, hr, hc⟩)⟩⟩
      · rename_i l args hr
        split at h
        · simp at h
        · rename_i v s1 hc
          simp only [RT.ok.injEq] at h
          obtain ⟨h1, rfl⟩ := h
          exact ⟨v, h1.symm, .inr ⟨hw, .inr (.inr ⟨l, args, hr, hc⟩)⟩⟩

theorem Op1.syn {r : Rec} (hc : SCall P r) (hr : SRound P r) {o : AOpr} (h : Op1 r o tm s v s') : Syn s s' := by
  rcases h with ⟨_, _, rfl⟩ | ⟨_, h | ⟨f, args, _, h⟩ | ⟨l, args, _, h⟩⟩
  · exact Syn.refl _
  · exact runOp_syn h
  · exact (hc _ _ _ _ _ h).1
  · exact (hr _ _ _ _ _ h).1

/-- whether an operation is wanted -/
theorem wanted_ok {ops : Array Oper} {b : Array Nat} {i : Nat} {x : Bool} (h : wanted (cOpr P ops b i o).guard tm = some x) (hne : x = true → (cOpr P ops b i o).op ≠ .bad "guard") (ht : Rt σ D tm a.tmps) :
    (Region.wanted o (yielded ops a.tmps)) = x := by
  unfold cOpr at h
  cases hg : o.guard with
  | none =>
    rw [hg] at h
    simp only [wanted, Option.some.injEq] at h
    subst h
    simp [Region.wanted, hg]
  | some jw =>
    obtain ⟨j, want⟩ := jw
    rw [hg] at h
    simp only [Region.wanted, hg]
    cases hd : (ops[j]?).bind (·.dst) with
    | none =>
      exfalso
      unfold cOpr at hne
      rw [hg] at hne
      simp only [hd] at hne h
      simp only [wanted, Option.some.injEq] at h
      exact hne h.symm rfl
    | some t =>
      simp only [hd, wanted] at h
      have hv := ht t
      have hy : yielded ops a.tmps j = match a.tmps[t]? with | some (.bool b) => some b | _ => none := by
        simp only [yielded, hd, Option.bind_some]
        rfl
      rw [hy]
      have hgd : ∀ z, a.tmps.getD t undef = z → z ≠ undef → a.tmps[t]? = some z := by
        intro z hz hne
        rw [Array.getD_eq_getD_getElem?] at hz
        cases hq : a.tmps[t]? with
        | none => rw [hq] at hz; exact absurd hz.symm hne
        | some q => rw [hq] at hz; simp at hz; rw [hz]
      split at h
      · rename_i b' hb'
        rw [hb'] at hv
        have := hgd _ (bool_of hv) (by simp [undef])
        rw [this]
        cases b' <;> simp_all
      · rename_i l hl
        split at h
        · rw [hl] at hv
          obtain ⟨q, hq, hq'⟩ := tup_of hv
          cases hq'
          simp only [Option.some.injEq] at h; subst h
          cases hz : a.tmps[t]? with
          | none => rfl
          | some z =>
            rw [Array.getD_eq_getD_getElem?, hz] at hq
            simp at hq; subst hq; rfl
        · simp at h
      · simp at h

theorem cOpr_op {ops : Array Oper} {b : Array Nat} {i : Nat} (hne : (cOpr P ops b i o).op ≠ .bad "guard") : (cOpr P ops b i o).op = cOp P o.op := by
  unfold cOpr at hne ⊢
  cases hg : o.guard with
  | none => rfl
  | some jw =>
    obtain ⟨j, want⟩ := jw
    rw [hg] at hne
    cases hd : (ops[j]?).bind (·.dst) with
    | none => simp [hd] at hne
    | some t => simp only [hd]

theorem cOpr_dst {ops : Array Oper} {b : Array Nat} {i : Nat} : (cOpr P ops b i o).dst = o.dst := by
  unfold cOpr
  cases hg : o.guard with
  | none => rfl
  | some jw =>
    obtain ⟨j, want⟩ := jw
    cases hd : (ops[j]?).bind (·.dst) <;> simp only [hd]

theorem nodefer (h : runOp (cOp P o.op) tm s ≠ .no) (c : Call) : o.op ≠ .defer c := by
  intro e
  rw [e] at h
  simp [cOp, runOp, rNo] at h

/-- ONE OPERATION OF A REGION -/
theorem op1_ok {r : Rec} (hc : SCall P r) (hr : SRound P r) {r0 : Option Nat} {ops : Array Oper} {b : Array Nat} {i : Nat} (h : Op1 r (cOpr P ops b i o) tm s v s')
    (hw : RW P σ D s w) (ht : Rt σ D tm a.tmps) (hoff : Off D s.nx s'.nx) {next : Act → World → Prop} {Q : Exit → Act → World → Prop}
    (hnext : ∀ y w', Aft P σ D s w v s' y w' → next (a.put o.dst y) w') :
    if Region.wanted o (yielded ops a.tmps) then o.wpIn (Fn r0) 0 P a w next Q else (∀ f, o.about P w a.eval = some f → (Fn r0).fn f) ∧ next (a.put o.dst undef) w := by
  rcases h with ⟨hwn, rfl, rfl⟩ | ⟨hwn, h⟩
  · have := wanted_ok (a := a) hwn (by simp) ht
    rw [this]
    simp only [Bool.false_eq_true, if_false]
    refine ⟨fun _ _ => trivial, hnext _ _ ⟨σ, Stp.refl hw, .tup _ _ .nil⟩⟩
  · have hnn : runOp (cOpr P ops b i o).op tm s ≠ .no := by
      rcases h with h | ⟨f, args, h, _⟩ | ⟨l, args, h, _⟩ <;> rw [h] <;> simp
    have hnb : (cOpr P ops b i o).op ≠ .bad "guard" := fun e => by rw [e] at hnn; simp [runOp, rNo] at hnn
    have := wanted_ok (a := a) hwn (fun _ => hnb) ht
    rw [this]
    simp only [if_true]
    rw [cOpr_op hnb] at h hnn
    refine ⟨fun _ _ => trivial, ?_⟩
    rw [Oper.semAt_eq _ _ _ (nodefer hnn)]
    rcases h with h | ⟨f, args, h, hcall⟩ | ⟨l, args, h, hround⟩
    · obtain ⟨rr, w', σ', hrun, hres, hst⟩ := op_ok (a := a) h hw ht hoff
      rw [hrun]
      rcases hres with ⟨y, rfl, hy⟩ | ⟨rfl, rfl⟩
      · exact hnext y w' ⟨σ', hst, hy⟩
      · exact hnext undef w' ⟨σ', hst, .tup _ _ .nil⟩
    · obtain ⟨l, hl, hrun⟩ := op_fcall (P := P) (a := a) h ht
      rw [hrun]
      rcases (hc _ _ _ _ _ hcall).2 σ D w l hw hl hoff with ⟨y, w', h1, _, h2⟩ | ⟨h1, h2⟩
      · rw [h1]; exact hnext y w' h2
      · rw [h1]
        refine ⟨fun h => by simp [Fn] at h, ?_⟩
        have h3 : CallsIn (Fn r0) 0 P f ⟨l⟩ w (fun e w' => ∃ y, e = .returned y ∧ Aft P σ D s w v s' y w') := h2
        refine h3.mono ?_
        rintro e w' ⟨y, rfl, hy⟩
        exact hnext y w' hy
    · obtain ⟨m, hm, hD, hrun⟩ := op_yield (P := P) (a := a) h ht
      rw [hrun]
      obtain ⟨fn, tmps, asg, body, h1, h2⟩ := (hr _ _ _ _ _ hround).2 σ D w m hw hm hoff
      rw [h1]
      refine ⟨fun h => by simp [Fn] at h, ?_⟩
      have h3 : RoundIn (Fn r0) 0 P (σ l).blk fn tmps asg body w (fun e w' => ∃ y, e = .returned y ∧ Aft P σ D s w v s' y w') := h2
      refine h3.mono ?_
      rintro e w' ⟨y, rfl, hy⟩
      exact hnext y w' hy

theorem ops1_nil (r : Rec) (tm : T AV) (s : S) : ops1 r [] tm s = .ok tm s := rfl
theorem ops1_cons (r : Rec) (o : AOpr) (l : List AOpr) (tm : T AV) (s : S) : ops1 r (o :: l) tm s = match op1 r o tm s with | .no => .no | .ok tm s => ops1 r l tm s := by
  show @RT.rec (fun _ => RT) .no (ops1 r l) (op1 r o tm s) = _
  cases op1 r o tm s <;> rfl

theorem dOkO_cons (n : Nat) (o : AOpr) (l : List AOpr) : dOkO n (o :: l) = true ↔ (∀ d, o.dst = some d → d < n) ∧ dOkO n l = true := by
  simp only [dOkO, Bool.and_eq_true]
  cases o.dst with
  | none => simp
  | some d => simp [Nat.blt_eq]

theorem put_size (a : Act) (d : Option Tmp) (v : Value) : (a.put d v).tmps.size = a.tmps.size := by cases d <;> simp [Act.put]
theorem put_defers (a : Act) (d : Option Tmp) (v : Value) : (a.put d v).defers = a.defers := by cases d <;> rfl

theorem Rt.put {d : Option Tmp} {y : Value} (ht : Rt σ D tm a.tmps) (hd : ∀ t, d = some t → t < a.tmps.size) (hy : R σ D v y) : Rt σ D (putD d tm v) (a.put d y).tmps := by
  cases d with
  | none => exact ht
  | some t =>
    intro k
    show R σ D (gt (st tm t v) k) ((a.tmps.setIfInBounds t y).getD k undef)
    rw [gt_st, Array.getD_eq_getD_getElem?, Array.getElem?_setIfInBounds]
    by_cases h : k = t
    · subst h
      rw [if_pos rfl, if_pos rfl, if_pos (hd k rfl)]; exact hy
    · rw [if_neg h, if_neg (fun e => h e.symm), ← Array.getD_eq_getD_getElem?]; exact ht k

theorem ops1_ok {r : Rec} (hc : SCall P r) (hr : SRound P r) {r0 : Option Nat} {ops : Array Oper} {b : Array Nat} {Q : Exit → Act → World → Prop} : ∀ (l : List Oper) (k : Nat) (tm : T AV) (s : S) (tm' : T AV) (s' : S),
    ops1 r ((l.zipIdx k).map fun (o, i) => cOpr P ops b i o) tm s = .ok tm' s' →
    Syn s s' ∧ ∀ σ D a w, RW P σ D s w → Rt σ D tm a.tmps → dOkO a.tmps.size ((l.zipIdx k).map fun (o, i) => cOpr P ops b i o) = true → Off D s.nx s'.nx →
      (∀ σ' a' w', Stp P σ D s w σ' s' w' → Rt σ' (Up D s.nx s'.nx) tm' a'.tmps → a'.tmps.size = a.tmps.size → a'.defers = a.defers → Q .normal a' w') →
      wpListIn (Fn r0) 0 P ops Q l a w
  | [], k, tm, s, tm', s', h => by
    simp only [List.zipIdx_nil, List.map_nil, ops1_nil, RT.ok.injEq] at h
    obtain ⟨rfl, rfl⟩ := h
    refine ⟨Syn.refl _, fun σ D a w hw ht _ _ hq => ?_⟩
    exact hq σ a w (Stp.refl hw) (ht.mono (fun _ _ => rfl) fun _ h => .inl h) rfl rfl
  | o :: l, k, tm, s, tm', s', h => by
    rw [List.zipIdx_cons, List.map_cons, ops1_cons] at h
    split at h
    · simp at h
    · rename_i tm1 s1 h1
      obtain ⟨v, rfl, hop⟩ := op1_inv h1
      obtain ⟨hsyn, hrest⟩ := ops1_ok hc hr (r0 := r0) (Q := Q) l (k + 1) _ s1 tm' s' h
      have hs1 := hop.syn hc hr
      refine ⟨hs1.trans hsyn, fun σ D a w hw ht hd hoff hq => ?_⟩
      rw [List.zipIdx_cons, List.map_cons, dOkO_cons] at hd
      obtain ⟨hd1, hd2⟩ := hd
      rw [cOpr_dst] at hd1
      refine op1_ok hc hr hop hw ht (hoff.left hsyn.nx) fun y w1 ⟨σ1, hst, hy⟩ => ?_
      have hput : Rt σ1 (Up D s.nx s1.nx) (putD o.dst tm v) (a.put o.dst y).tmps := Rt.put (ht.mono hst.ext fun _ h => .inl h) hd1 hy
      rw [cOpr_dst] at hrest
      refine hrest σ1 (Up D s.nx s1.nx) (a.put o.dst y) w1 hst.rw' hput (by rw [put_size]; exact hd2) (hoff.right hs1.nx) fun σ' a' w' hst' ht' hsz hdf => ?_
      have hD : Up (Up D s.nx s1.nx) s1.nx s'.nx = Up D s.nx s'.nx := funext fun x => propext (up_up hs1.nx hsyn.nx)
      rw [hD] at ht'
      exact hq σ' a' w' (Stp.trans hs1 hsyn hw hst hst') ht' (by rw [hsz, put_size]) (by rw [hdf, put_defers])
end
end Go.VM

namespace Go.VM
open Go

section
variable {P : Program} {σ : Nat → Loc} {D : Nat → Prop} {s s' : S} {w : World} {a : Act} {tm : T AV} {v : AV} {o : Oper}

/-- marks of loops among the deferred calls -/
def Marks (h0 : Nat) (ds : List Deferred) (w : World) : Prop :=
  ∃ rs : List Nat, ds = rs.map (fun r => { target := .collected r, args := #[] }) ∧ rs.Nodup ∧ ∀ r ∈ rs, h0 ≤ r ∧ w.heap[r]? = some (.deferred (some []))

theorem Stp.deferred {σ' : Nat → Loc} {w' : World} {r : Nat} {x : Option (List Deferred)} (hst : Stp P σ D s w σ' s' w') (hw : RW P σ D s w) (h : w.heap[r]? = some (.deferred x)) : w'.heap[r]? = some (.deferred x) := by
  have hlt := (Array.getElem?_eq_some_iff.1 h).1
  rw [hst.frame r hlt fun y _ hv => ?_]
  · exact h
  · intro e
    have ho := hw.obj y hv
    generalize s.get y = ob at ho hv
    cases ob with
    | non => exact hv rfl
    | cells c m e' p => obtain ⟨C, el, lo, hi, h1, _⟩ := ho; rw [e, h] at h1; cases h1
    | map es => obtain ⟨E, c, h1, _⟩ := ho; rw [e, h] at h1; cases h1
    | loop tm ps asg body st pend => obtain ⟨L, h1, _⟩ := ho; rw [e, h] at h1; cases h1
    | raw => obtain ⟨C, el, fr, h1, _⟩ := ho; rw [e, h] at h1; cases h1

theorem Marks.stp {h0 : Nat} {ds : List Deferred} {σ' : Nat → Loc} {w' : World} (h : Marks h0 ds w) (hst : Stp P σ D s w σ' s' w') (hw : RW P σ D s w) : Marks h0 ds w' := by
  obtain ⟨rs, h1, h2, h3⟩ := h
  exact ⟨rs, h1, h2, fun r hr => ⟨(h3 r hr).1, hst.deferred hw (h3 r hr).2⟩⟩

/-- what a code comes to -/
inductive RXs : RX → Exit → T AV → S → Prop
  | norm (tm : T AV) (s : S) : RXs (.norm tm s) .normal tm s
  | exit (id : Nat) (tm : T AV) (s : S) : RXs (.exit id tm s) (.exit id) tm s
  | ret (tm : T AV) (s : S) : RXs (.ret tm s) .ret tm s

def PX (P : Program) (σ : Nat → Loc) (D : Nat → Prop) (s : S) (w : World) (n h0 : Nat) (X : RX) (e : Exit) (a' : Act) (w' : World) : Prop :=
  ∃ tm' s' σ', RXs X e tm' s' ∧ Stp P σ D s w σ' s' w' ∧ Rt σ' (Up D s.nx s'.nx) tm' a'.tmps ∧ a'.tmps.size = n ∧ Marks h0 a'.defers w'

def XSyn (s : S) (X : RX) : Prop := ∀ e tm' s', RXs X e tm' s' → Syn s s'
def XOff (D : Nat → Prop) (s : S) (X : RX) : Prop := ∀ e tm' s', RXs X e tm' s' → Off D s.nx s'.nx

/-- a code's run by the machine (W: what the machine does), and by X -/
def RunsW (P : Program) (W : Option Nat → (Exit → Act → World → Prop) → Act → World → Prop) (cc : ACode) (tm : T AV) (s : S) (X : RX) : Prop :=
  XSyn s X ∧ ∀ (r0 : Option Nat) (σ : Nat → Loc) (D : Nat → Prop) (a : Act) (w : World) (h0 : Nat), RW P σ D s w → Rt σ D tm a.tmps → dOk a.tmps.size cc = true → Marks h0 a.defers w → h0 ≤ w.heap.size →
    (r0 ≠ none → flat cc = true) → XOff D s X → W r0 (PX P σ D s w a.tmps.size h0 X) a w

def cw (P : Program) (c : Code) (r0 : Option Nat) (Q : Exit → Act → World → Prop) (a : Act) (w : World) : Prop := c.wpIn (Fn r0) 0 P Q a w

def Runs (P : Program) (c : Code) (tm : T AV) (s : S) (X : RX) : Prop := RunsW P (cw P c) (cCode P c) tm s X

/-- a loop that has been entered -/
def lw (P : Program) (c : Code) (r0 : Option Nat) (Q : Exit → Act → World → Prop) (a : Act) (w : World) : Prop :=
  ∀ (b : Frame) (k : List Item) (cs : List Frame), b.roundOf = (Fn r0).round → (Fn r0).fn b.fn → (Fn r0).room (cs.length + 1 + 0) →
    ∃ e a' w', Q e a' w' ∧ ArrivesIn (Machine.fenced P (Fn r0)) P (lone (b.atR a (.code c :: .inLoop c :: k)) cs w) b k cs e a' w'

theorem lw_mono {c : Code} {r0 : Option Nat} {Q Q' : Exit → Act → World → Prop} (h : lw P c r0 Q a w) (hq : ∀ e a w, Q e a w → Q' e a w) : lw P c r0 Q' a w :=
  fun b k cs hro hb hr => let ⟨e, a', w', q, r⟩ := h b k cs hro hb hr; ⟨e, a', w', hq _ _ _ q, r⟩

theorem cw_loop {c : Code} {r0 : Option Nat} {Q : Exit → Act → World → Prop} (h : lw P c r0 Q a w) : cw P (.loop c) r0 Q a w := by
  intro b k cs hro hb hr
  obtain ⟨e, a', w', hq, harr⟩ := h b k cs hro hb hr
  exact ⟨e, a', w', hq, .of_steps (.one (fenced_calm hb hr rfl) stepR_loop) harr⟩

theorem lw_step {c : Code} {r0 : Option Nat} {Q : Exit → Act → World → Prop} (h : c.wpIn (Fn r0) 0 P (Exit.then (lw P c r0 Q) Q) a w) : lw P c r0 Q a w := by
  intro b k cs hro hb hr
  obtain ⟨e, a₁, w₁, hq, harr⟩ := h b (.inLoop c :: k) cs hro hb hr
  cases e with
  | normal =>
    obtain ⟨e₂, a₂, w₂, hq₂, harr₂⟩ := hq b k cs hro hb hr
    exact ⟨e₂, a₂, w₂, hq₂, .of_steps (StepsIn.trans harr (.one (fenced_calm hb hr rfl) stepR_inLoop)) harr₂⟩
  | exit id => exact ⟨_, a₁, w₁, hq, .pass (x := .inLoop c) rfl (fun _ _ => .inl (by simp)) harr⟩
  | goto l => exact ⟨_, a₁, w₁, hq, .pass (x := .inLoop c) rfl (fun _ _ => .inl (by simp)) harr⟩
  | ret => exact ⟨_, a₁, w₁, hq, .pass (x := .inLoop c) rfl (fun _ _ => .inl (by simp)) harr⟩
  | panic ch => exact ⟨_, a₁, w₁, hq, .pass (x := .inLoop c) rfl (fun _ _ => .inl (by simp)) harr⟩
  | outgrown => exact ⟨_, a₁, w₁, hq, .pass (x := .inLoop c) rfl (fun _ _ => .inl (by simp)) harr⟩

def SExec (P : Program) (r : Rec) : Prop := ∀ c tm s, r.exec (cCode P c) tm s ≠ .no → Runs P c tm s (r.exec (cCode P c) tm s)

/-- loops that have been entered -/
def SLoop (P : Program) (r : Rec) : Prop := ∀ c tm s, r.exec (.loop (cCode P c)) tm s ≠ .no → RunsW P (lw P c) (.loop (cCode P c)) tm s (r.exec (.loop (cCode P c)) tm s)

def SDraw (P : Program) (r : Rec) : Prop := ∀ id ops tm s tm' s', drawOk P ops = true →
  opsD r (drawL P ops) 0 [] [] false tm s = .ok tm' s' → Runs P (.region id ops true) tm s (.norm tm' s')

def SRange (P : Program) (r : Rec) : Prop := ∀ f ps asg body tm s, xRange r (cOpd f) ps.toList (cCode P asg) (cCode P body) tm s ≠ .no →
  Runs P (.rangeFunc f ps asg body) tm s (xRange r (cOpd f) ps.toList (cCode P asg) (cCode P body) tm s)

theorem PX.of {n h0 : Nat} {X : RX} {e : Exit} {tm' : T AV} {s' : S} {a' : Act} {w' : World} {σ' : Nat → Loc} (h : RXs X e tm' s') (hst : Stp P σ D s w σ' s' w') (ht : Rt σ' (Up D s.nx s'.nx) tm' a'.tmps) (hn : a'.tmps.size = n) (hm : Marks h0 a'.defers w') :
    PX P σ D s w n h0 X e a' w' := ⟨tm', s', σ', h, hst, ht, hn, hm⟩

theorem rx_no {X : RX} (h : X ≠ .no) : ∃ e tm' s', RXs X e tm' s' := by
  cases X with
  | no => exact absurd rfl h
  | norm tm s => exact ⟨_, _, _, .norm tm s⟩
  | exit id tm s => exact ⟨_, _, _, .exit id tm s⟩
  | ret tm s => exact ⟨_, _, _, .ret tm s⟩

/-- two codes, one behind the other: the second's run is whatever F makes of the state -/
theorem xSeq_eq (f g : T AV → S → RX) (tm : T AV) (s : S) : xSeq f g tm s = match f tm s with | .no => .no | .norm tm s => g tm s | .exit i tm s => .exit i tm s | .ret tm s => .ret tm s := by
  unfold xSeq; cases f tm s <;> rfl
theorem xBlock_eq (id : Nat) (f : T AV → S → RX) (tm : T AV) (s : S) : xBlock id f tm s = match f tm s with | .no => .no | .norm tm s => .norm tm s | .exit i tm s => (match Nat.beq i id with | true => .norm tm s | false => .exit i tm s) | .ret tm s => .ret tm s := by
  unfold xBlock; cases f tm s with
  | exit i tm s => show @Bool.rec _ _ _ (Nat.beq i id) = _; cases hb : Nat.beq i id <;> simp [hb]
  | _ => rfl

theorem runs_seq {x : Code} {W2 W : Option Nat → (Exit → Act → World → Prop) → Act → World → Prop} {cc ccy : ACode} {f g : T AV → S → RX} (hx : f tm s ≠ .no → Runs P x tm s (f tm s)) (hy : ∀ tm1 s1, f tm s = .norm tm1 s1 → g tm1 s1 ≠ .no → RunsW P W2 ccy tm1 s1 (g tm1 s1))
    (hn : xSeq f g tm s ≠ .no) (hd : ∀ n, dOk n cc = true → dOk n (cCode P x) = true ∧ dOk n ccy = true) (hfl : flat cc = true → flat (cCode P x) = true ∧ flat ccy = true)
    (hm2 : ∀ r0 Q Q' a w, W2 r0 Q a w → (∀ e a w, Q e a w → Q' e a w) → W2 r0 Q' a w)
    (hwp : ∀ (r0 : Option Nat) (Q : Exit → Act → World → Prop) (a : Act) (w : World), x.wpIn (Fn r0) 0 P (Exit.then (W2 r0 Q) Q) a w → W r0 Q a w) :
    RunsW P W cc tm s (xSeq f g tm s) := by
  rw [xSeq_eq] at hn ⊢
  cases hf : f tm s with
  | no => rw [hf] at hn; exact absurd rfl hn
  | norm tm1 s1 =>
    rw [hf] at hn hx
    simp only at hn ⊢
    obtain ⟨hs1, hr1⟩ := hx (by simp)
    obtain ⟨hs2, hr2⟩ := hy tm1 s1 hf hn
    have hsyn1 := hs1 _ _ _ (.norm tm1 s1)
    refine ⟨fun e tm' s' h => hsyn1.trans (hs2 e tm' s' h), fun r0 σ D a w h0 hw ht hdk hm hh0 hro hoff => ?_⟩
    obtain ⟨hd1, hd2⟩ := hd _ hdk
    have hro1 : r0 ≠ none → flat (cCode P x) = true := fun h => (hfl (hro h)).1
    have hro2 : r0 ≠ none → flat ccy = true := fun h => (hfl (hro h)).2
    obtain ⟨e, tm2, s2, h2⟩ := rx_no hn
    have hnx := (hs2 _ _ _ h2).nx
    refine hwp r0 _ a w (wpIn_mono (hr1 r0 σ D a w h0 hw ht hd1 hm hh0 hro1 (fun e tm' s' h => by cases h; exact (hoff _ _ _ h2).left hnx)) ?_)
    rintro e' a1 w1 ⟨tm', s', σ1, hx1, hst1, ht1, hn1, hm1⟩
    cases hx1
    refine hm2 _ _ _ _ _ (hr2 r0 σ1 _ a1 w1 h0 hst1.rw' ht1 (by rw [hn1]; exact hd2) hm1 (Nat.le_trans hh0 hst1.size) hro2 (fun e tm' s' h => (hoff e tm' s' h).right hsyn1.nx)) ?_
    rintro e' a2 w2 ⟨tm', s', σ2, hx2, hst2, ht2, hn2, hm2⟩
    have hsyn2 := hs2 _ _ _ hx2
    have hD : Up (Up D s.nx s1.nx) s1.nx s'.nx = Up D s.nx s'.nx := funext fun x => propext (up_up hsyn1.nx hsyn2.nx)
    rw [hD] at ht2
    exact ⟨tm', s', σ2, hx2, Stp.trans hsyn1 hsyn2 hw hst1 hst2, ht2, by rw [hn2, hn1], hm2⟩
  | exit i tm1 s1 =>
    rw [hf] at hx
    obtain ⟨hs1, hr1⟩ := hx (by simp)
    refine ⟨hs1, fun r0 σ D a w h0 hw ht hdk hm hh0 hro hoff => ?_⟩
    refine hwp r0 _ a w (wpIn_mono (hr1 r0 σ D a w h0 hw ht (hd _ hdk).1 hm hh0 (fun h => (hfl (hro h)).1) hoff) ?_)
    rintro e' a1 w1 ⟨tm', s', σ1, hx1, hst1, ht1, hn1, hm1⟩
    cases hx1
    exact ⟨tm1, s1, σ1, .exit _ _ _, hst1, ht1, hn1, hm1⟩
  | ret tm1 s1 =>
    rw [hf] at hx
    obtain ⟨hs1, hr1⟩ := hx (by simp)
    refine ⟨hs1, fun r0 σ D a w h0 hw ht hdk hm hh0 hro hoff => ?_⟩
    refine hwp r0 _ a w (wpIn_mono (hr1 r0 σ D a w h0 hw ht (hd _ hdk).1 hm hh0 (fun h => (hfl (hro h)).1) hoff) ?_)
    rintro e' a1 w1 ⟨tm', s', σ1, hx1, hst1, ht1, hn1, hm1⟩
    cases hx1
    exact ⟨tm1, s1, σ1, .ret _ _, hst1, ht1, hn1, hm1⟩

theorem runs_here {c : Code} {e : Exit} {X : RX} (hx : RXs X e tm s) (hX : ∀ e' tm' s', RXs X e' tm' s' → e' = e ∧ tm' = tm ∧ s' = s) (hwp : ∀ (r0 : Option Nat) (Q : Exit → Act → World → Prop) (a : Act) (w : World), Q e a w → c.wpIn (Fn r0) 0 P Q a w) : Runs P c tm s X := by
  refine ⟨fun e' tm' s' h => ?_, fun r0 σ D a w h0 hw ht _ hm _ _ _ => hwp r0 _ a w ?_⟩
  · obtain ⟨_, _, rfl⟩ := hX _ _ _ h; exact Syn.refl _
  · exact ⟨tm, s, σ, hx, Stp.refl hw, ht.mono (fun _ _ => rfl) fun _ h => .inl h, rfl, hm⟩

theorem runs_block {c : Code} {id : Nat} {f : T AV → S → RX} (hx : f tm s ≠ .no → Runs P c tm s (f tm s)) (hn : xBlock id f tm s ≠ .no) : Runs P (.block id c) tm s (xBlock id f tm s) := by
  rw [xBlock_eq] at hn ⊢
  have hf : f tm s ≠ .no := fun e => by rw [e] at hn; exact hn rfl
  obtain ⟨hs1, hr1⟩ := hx hf
  -- how an end of the body becomes one of the block
  have hmap : ∀ e tm' s', RXs (f tm s) e tm' s' → ∃ e', RXs (match f tm s with | .no => .no | .norm tm s => .norm tm s | .exit i tm s => (match Nat.beq i id with | true => .norm tm s | false => .exit i tm s) | .ret tm s => .ret tm s) e' tm' s' ∧
      ∀ (Q : Exit → Act → World → Prop) a w, Q e' a w → Exit.inBlock id Q e a w := by
    intro e tm' s' h
    cases hq : f tm s with
    | no => rw [hq] at h; cases h
    | norm t u => rw [hq] at h; cases h; exact ⟨_, .norm _ _, fun Q a w h => h⟩
    | ret t u => rw [hq] at h; cases h; exact ⟨_, .ret _ _, fun Q a w h => h⟩
    | exit i t u =>
      rw [hq] at h; cases h
      cases hb : Nat.beq i id with
      | true =>
        have : i = id := Nat.eq_of_beq_eq_true hb
        exact ⟨.normal, by simp only [hb]; exact .norm _ _, fun Q a w h => by simp only [Exit.inBlock, this, if_true]; exact h⟩
      | false =>
        have : i ≠ id := fun e => by rw [e, Nat.beq_refl] at hb; cases hb
        exact ⟨.exit i, by simp only [hb]; exact .exit _ _ _, fun Q a w h => by simp only [Exit.inBlock, this, if_false]; exact h⟩
  have hback : ∀ e' tm' s', RXs (match f tm s with | .no => .no | .norm tm s => .norm tm s | .exit i tm s => (match Nat.beq i id with | true => .norm tm s | false => .exit i tm s) | .ret tm s => .ret tm s) e' tm' s' → ∃ e, RXs (f tm s) e tm' s' := by
    intro e' tm' s' h
    cases hq : f tm s with
    | no => rw [hq] at h; cases h
    | norm t u => rw [hq] at h; cases h; exact ⟨_, .norm _ _⟩
    | ret t u => rw [hq] at h; cases h; exact ⟨_, .ret _ _⟩
    | exit i t u =>
      rw [hq] at h
      simp only at h
      cases hb : Nat.beq i id with
      | true => rw [hb] at h; cases h; exact ⟨_, .exit _ _ _⟩
      | false => rw [hb] at h; cases h; exact ⟨_, .exit _ _ _⟩
  refine ⟨fun e' tm' s' h => let ⟨e, he⟩ := hback _ _ _ h; hs1 _ _ _ he, fun r0 σ D a w h0 hw ht hdk hm hh0 hro hoff => ?_⟩
  refine wpIn_block (wpIn_mono (hr1 r0 σ D a w h0 hw ht hdk hm hh0 hro fun e tm' s' h => let ⟨e', he, _⟩ := hmap _ _ _ h; hoff _ _ _ he) ?_)
  rintro e a1 w1 ⟨tm', s', σ1, hx1, hst1, ht1, hn1, hm1⟩
  obtain ⟨e', h1, h2⟩ := hmap _ _ _ hx1
  exact h2 _ _ _ ⟨tm', s', σ1, h1, hst1, ht1, hn1, hm1⟩

theorem xReg_ok {r : Rec} (hc : SCall P r) (hr : SRound P r) (hd : SDraw P r) {id : Nat} {ops : Array Oper} {draw : Bool} (hn : execF r (cCode P (.region id ops draw)) tm s ≠ .no) :
    Runs P (.region id ops draw) tm s (execF r (cCode P (.region id ops draw)) tm s) := by
  cases draw with
  | true =>
    cases hdo : drawOk P ops with
    | false =>
      have : cCode P (.region id ops true) = .bad "draw" := by simp [cCode, hdo]
      rw [this] at hn; exact absurd rfl hn
    | true =>
      have e : cCode P (.region id ops true) = .region (drawL P ops) true := by simp [cCode, hdo]
      have e2 : execF r (cCode P (.region id ops true)) tm s = match opsD r (drawL P ops) 0 [] [] false tm s with | .no => .no | .ok tm s => .norm tm s := by rw [e]; rfl
      rw [e2] at hn ⊢
      cases hq : opsD r (drawL P ops) 0 [] [] false tm s with
      | no => rw [hq] at hn; exact absurd rfl hn
      | ok tm' s' => exact hd id ops tm s tm' s' hdo hq
  | false =>
    have e : cCode P (.region id ops false) = .region ((ops.toList.zipIdx).map fun (o, i) => cOpr P ops #[] i o) false := by simp [cCode]
    have e2 : execF r (cCode P (.region id ops false)) tm s = match ops1 r ((ops.toList.zipIdx).map fun (o, i) => cOpr P ops #[] i o) tm s with | .no => .no | .ok tm s => .norm tm s := by rw [e]; rfl
    rw [e2] at hn ⊢
    cases hq : ops1 r ((ops.toList.zipIdx).map fun (o, i) => cOpr P ops #[] i o) tm s with
    | no => rw [hq] at hn; exact absurd rfl hn
    | ok tm' s' =>
      refine ⟨fun e tm1 s1 h => ?_, fun r0 σ D a w h0 hw ht hdk hm hh0 hro hoff => ?_⟩
      · cases h; exact (ops1_ok hc hr (r0 := none) (Q := fun _ _ _ => True) ops.toList 0 tm s tm' s' hq).1
      · rw [e] at hdk
        refine wpIn_region_list ((ops1_ok hc hr (r0 := r0) ops.toList 0 tm s tm' s' hq).2 σ D a w hw ht hdk (hoff _ _ _ (.norm _ _)) fun σ' a' w' hst ht' hsz hdf => ?_)
        exact ⟨tm', s', σ', .norm _ _, hst, ht', hsz, by rw [hdf]; exact hm.stp hst hw⟩

theorem execF_ok {r : Rec} (hc : SCall P r) (hr : SRound P r) (hd : SDraw P r) (hrg : SRange P r) (hl : SLoop P r) : ∀ (c : Code) (tm : T AV) (s : S), execF r (cCode P c) tm s ≠ .no → Runs P c tm s (execF r (cCode P c) tm s)
  | .skip, tm, s, _ => runs_here (X := .norm tm s) (.norm tm s) (fun e' tm' s' h => by cases h; exact ⟨rfl, rfl, rfl⟩) fun r0 Q a w h => wpIn_skip h
  | .label l, tm, s, _ => runs_here (X := .norm tm s) (.norm tm s) (fun e' tm' s' h => by cases h; exact ⟨rfl, rfl, rfl⟩) fun r0 Q a w h => wpIn_label h
  | .exit id, tm, s, _ => runs_here (X := .exit id tm s) (.exit id tm s) (fun e' tm' s' h => by cases h; exact ⟨rfl, rfl, rfl⟩) fun r0 Q a w h => wpIn_exit h
  | .ret, tm, s, _ => runs_here (X := .ret tm s) (.ret tm s) (fun e' tm' s' h => by cases h; exact ⟨rfl, rfl, rfl⟩) fun r0 Q a w h => wpIn_ret h
  | .region id ops draw, tm, s, hn => xReg_ok hc hr hd hn
  | .seq x y, tm, s, hn => by
    have e : ∀ tm s, execF r (cCode P (.seq x y)) tm s = xSeq (execF r (cCode P x)) (execF r (cCode P y)) tm s := fun _ _ => rfl
    rw [e] at hn ⊢
    exact runs_seq (W2 := cw P y) (ccy := cCode P y) (execF_ok hc hr hd hrg hl x tm s) (fun tm1 s1 _ h => execF_ok hc hr hd hrg hl y tm1 s1 h) hn
      (fun n h => by simpa [cCode, dOk] using h) (fun h => by
        have h' : (flat (cCode P x) && flat (cCode P y)) = true := h
        simpa using h')
      (fun r0 Q Q' a w h hq => wpIn_mono h hq) (fun r0 Q a w h => wpIn_seq h)
  | .cond c x y, tm, s, hn => by
    have e : execF r (cCode P (.cond c x y)) tm s = xCond (cOpd c) (execF r (cCode P x)) (execF r (cCode P y)) tm s := rfl
    rw [e] at hn ⊢
    unfold xCond at hn ⊢
    split at hn
    · rename_i t ht
      have hfl : ∀ t : Bool, flat (cCode P (.cond c x y)) = true → flat (cCode P (if t then x else y)) = true := fun t h => by
        have h' : (flat (cCode P x) && flat (cCode P y)) = true := h
        simp at h'
        cases t <;> simp [h']
      have hdd : ∀ (t : Bool) n, dOk n (cCode P (.cond c x y)) = true → dOk n (cCode P (if t then x else y)) = true := fun t n h => by
        simp [cCode, dOk] at h
        cases t <;> simp [h]
      have key : ∀ (t : Bool) (X : RX), evalO tm (cOpd c) = .bool t → Runs P (if t then x else y) tm s X → Runs P (.cond c x y) tm s X := fun t X hc' ⟨h1, h2⟩ =>
        ⟨h1, fun r0 σ D a w h0 hw ht hdk hm hh0 hro hoff => wpIn_cond (t := t) (bool_of (by rw [← hc']; exact ev ht c)) (h2 r0 σ D a w h0 hw ht (hdd t _ hdk) hm hh0 (fun h => hfl t (hro h)) hoff)⟩
      cases t with
      | true => exact key true _ ht (execF_ok hc hr hd hrg hl x tm s hn)
      | false => exact key false _ ht (execF_ok hc hr hd hrg hl y tm s hn)
    · exact absurd rfl hn
  | .block id x, tm, s, hn => by
    have e : execF r (cCode P (.block id x)) tm s = xBlock id (execF r (cCode P x)) tm s := rfl
    rw [e] at hn ⊢
    exact runs_block (execF_ok hc hr hd hrg hl x tm s) hn
  | .loop x, tm, s, hn => by
    have e : execF r (cCode P (.loop x)) tm s = xSeq (execF r (cCode P x)) (r.exec (.loop (cCode P x))) tm s := rfl
    rw [e] at hn ⊢
    have h := runs_seq (W := lw P x) (cc := .loop (cCode P x)) (W2 := lw P x) (ccy := .loop (cCode P x)) (execF_ok hc hr hd hrg hl x tm s) (fun tm1 s1 _ h => hl x tm1 s1 h) hn
      (fun n h => ⟨by simpa [dOk] using h, h⟩) (fun h => ⟨h, h⟩)
      (fun r0 Q Q' a w h hq => lw_mono h hq) (fun r0 Q a w h => lw_step h)
    exact ⟨h.1, fun r0 σ D a w h0 hw ht hdk hm hh0 hro hoff => cw_loop (h.2 r0 σ D a w h0 hw ht hdk hm hh0 hro hoff)⟩
  | .rangeFunc f ps asg body, tm, s, hn => hrg f ps asg body tm s hn
  | .scope _, tm, s, hn => absurd rfl hn
  | .goto _, tm, s, hn => absurd rfl hn
  | .refuse _, tm, s, hn => absurd rfl hn

theorem loopF_ok {r : Rec} (hc : SCall P r) (hr : SRound P r) (hd : SDraw P r) (hrg : SRange P r) (hl : SLoop P r) (x : Code) (tm : T AV) (s : S) (hn : execF r (.loop (cCode P x)) tm s ≠ .no) :
    RunsW P (lw P x) (.loop (cCode P x)) tm s (execF r (.loop (cCode P x)) tm s) := by
  have e : execF r (.loop (cCode P x)) tm s = xSeq (execF r (cCode P x)) (r.exec (.loop (cCode P x))) tm s := rfl
  rw [e] at hn ⊢
  exact runs_seq (W := lw P x) (cc := .loop (cCode P x)) (W2 := lw P x) (ccy := .loop (cCode P x)) (execF_ok hc hr hd hrg hl x tm s) (fun tm1 s1 _ h => hl x tm1 s1 h) hn
    (fun n h => ⟨by simpa [dOk] using h, h⟩) (fun h => ⟨h, h⟩)
    (fun r0 Q Q' a w h hq => lw_mono h hq) (fun r0 Q a w h => lw_step h)
end
end Go.VM

namespace Go.VM
open Go

section
variable {P : Program} {σ : Nat → Loc} {D : Nat → Prop} {s s' : S} {w : World} {a : Act} {tm : T AV} {v : AV} {o : Oper}

theorem allLt_mono {n m : Nat} (h : n ≤ m) : ∀ {l : List Nat}, allLt n l = true → allLt m l = true
  | [], _ => rfl
  | x :: l, hh => by
    simp only [allLt, Bool.and_eq_true, Nat.blt_eq] at hh ⊢
    exact ⟨by omega, allLt_mono h hh.2⟩
theorem dOkO_mono {n m : Nat} (h : n ≤ m) : ∀ {l : List AOpr}, dOkO n l = true → dOkO m l = true
  | [], _ => rfl
  | x :: l, hh => by
    rw [dOkO_cons] at hh ⊢
    exact ⟨fun d hd => Nat.lt_of_lt_of_le (hh.1 d hd) h, dOkO_mono h hh.2⟩
theorem dOk_mono {n m : Nat} (h : n ≤ m) : ∀ {c : ACode}, dOk n c = true → dOk m c = true
  | .skip, _ => rfl
  | .region ops _, hh => dOkO_mono h hh
  | .seq a b, hh => by simp only [dOk, Bool.and_eq_true] at hh ⊢; exact ⟨dOk_mono h hh.1, dOk_mono h hh.2⟩
  | .cond _ a b, hh => by simp only [dOk, Bool.and_eq_true] at hh ⊢; exact ⟨dOk_mono h hh.1, dOk_mono h hh.2⟩
  | .block _ b, hh => dOk_mono (c := b) h hh
  | .loop b, hh => dOk_mono (c := b) h hh
  | .rangeF _ ps a b, hh => by simp only [dOk, Bool.and_eq_true] at hh ⊢; exact ⟨allLt_mono h hh.1, dOk_mono h hh.2.1, dOk_mono h hh.2.2⟩
  | .exit _, _ => rfl
  | .ret, _ => rfl
  | .bad _, _ => rfl

theorem below_mem (n x : Nat) (l : List Nat) : x ∈ below n l ↔ x ∈ l ∧ x < n := by
  induction l with
  | nil => simp [below]
  | cons y l ih =>
    have : below n (y :: l) = @Bool.rec (fun _ => List Nat) (below n l) (y :: below n l) (Nat.blt y n) := rfl
    rw [this]
    cases hb : Nat.blt y n with
    | false =>
      have : ¬ y < n := fun h => by rw [← Nat.blt_eq, hb] at h; cases h
      show x ∈ below n l ↔ _
      rw [ih]; simp only [List.mem_cons]
      constructor
      · rintro ⟨h1, h2⟩; exact ⟨.inr h1, h2⟩
      · rintro ⟨rfl | h1, h2⟩
        · exact absurd h2 this
        · exact ⟨h1, h2⟩
    | true =>
      rw [Nat.blt_eq] at hb
      show x ∈ y :: below n l ↔ _
      simp only [List.mem_cons, ih]
      constructor
      · rintro (rfl | ⟨h1, h2⟩)
        · exact ⟨.inl rfl, hb⟩
        · exact ⟨.inr h1, h2⟩
      · rintro ⟨rfl | h1, h2⟩
        · exact .inl rfl
        · exact .inr ⟨h1, h2⟩

/-- the state of a caller: the names below a bound count as written -/
theorem below_syn {h : T AObj} {nx : Nat} {ws : List Nat} {hid : List (Nat × Nat)} (hs : Syn s ⟨h, nx, ws, hid⟩) : Syn s ⟨h, nx, below s.nx ws, hid⟩ :=
  ⟨hs.nx, hs.hid, fun x hx hn => hs.keep x hx fun hm => hn ((below_mem _ _ _).2 ⟨hm, hx⟩), fun x hx hl => (below_mem _ _ _).2 ⟨hs.ws x hx hl, hl⟩, hs.hidden⟩

theorem RW.ws {h : T AObj} {nx : Nat} {ws ws' : List Nat} {hid : List (Nat × Nat)} (hw : RW P σ D ⟨h, nx, ws, hid⟩ w) : RW P σ D ⟨h, nx, ws', hid⟩ w :=
  ⟨hw.dom, hw.lt, hw.obj, hw.inj⟩

theorem below_stp {h : T AObj} {nx : Nat} {ws : List Nat} {hid : List (Nat × Nat)} {σ' : Nat → Loc} {w' : World} (hw : RW P σ D s w) (hs : Stp P σ D s w σ' ⟨h, nx, ws, hid⟩ w') : Stp P σ D s w σ' ⟨h, nx, below s.nx ws, hid⟩ w' :=
  ⟨hs.ext, hs.rw'.ws, hs.size, hs.os, hs.tape, hs.output, fun b hb hn => hs.frame b hb fun x hx hv => hn x ((below_mem _ _ _).2 ⟨hx, hw.lt x hv⟩) hv,
   fun x hx => (hs.own x hx).imp id fun ⟨h1, h2⟩ => ⟨h1, h2.imp id fun ⟨y, h3, h4, h5⟩ => ⟨y, (below_mem _ _ _).2 ⟨h3, hw.lt y h4⟩, h4, h5⟩⟩⟩

/-- a block of deferred calls is shut -/
theorem Stp.shut {σ' : Nat → Loc} {w' : World} {r : Nat} {x y : Option (List Deferred)} (hst : Stp P σ D s w σ' s' w') (h : w'.heap[r]? = some (.deferred x)) (hr : w.heap.size ≤ r) :
    Stp P σ D s w σ' s' { w' with heap := w'.heap.setIfInBounds r (.deferred y) } := by
  have hlt := (Array.getElem?_eq_some_iff.1 h).1
  refine ⟨hst.ext, ⟨hst.rw'.dom, hst.rw'.lt, fun z hz => ?_, hst.rw'.inj⟩, by simpa using hst.size, hst.os, hst.tape, hst.output, fun b hb hn => ?_, hst.own⟩
  · refine (hst.rw'.obj z hz).mono (fun _ _ => rfl) (fun _ h => h) ?_
    show (w'.heap.setIfInBounds r _)[(σ' z).blk]? = _
    rw [Array.getElem?_setIfInBounds, if_neg]
    intro e
    have ho := hst.rw'.obj z hz
    generalize s'.get z = ob at ho hz
    cases ob with
    | non => exact hz rfl
    | cells c m e' p => obtain ⟨C, el, lo, hi, h1, _⟩ := ho; rw [← e, h] at h1; cases h1
    | map es => obtain ⟨E, c, h1, _⟩ := ho; rw [← e, h] at h1; cases h1
    | loop tm ps asg body st pend => obtain ⟨L, h1, _⟩ := ho; rw [← e, h] at h1; cases h1
    | raw => obtain ⟨C, el, fr, h1, _⟩ := ho; rw [← e, h] at h1; cases h1
  · show (w'.heap.setIfInBounds r _)[b]? = _
    rw [Array.getElem?_setIfInBounds, if_neg (by omega)]
    exact hst.frame b hb hn

theorem run_take {r : Nat} {ds : List Deferred} (h : w.heap[r]? = some (.deferred (some ds))) : (Instr.takeDeferred r).run P w = .ok ds { w with heap := w.heap.setIfInBounds r (.deferred none) } := by
  simp [Instr.takeDeferred, getObj, setObj, Sem.run, h, Sem.run_bind]

/-- a frame leaves: its marks, one behind the other -/
theorem leaves_ok {r0 : Option Nat} {fn : Func} {tmps : Array Value} {R : Ending → World → Prop} {σ' : Nat → Loc} (hw : RW P σ D s w) : ∀ (ds : List Deferred) (w' : World), Stp P σ D s w σ' s' w' → Marks w.heap.size ds w' →
    (∀ w'', Stp P σ D s w σ' s' w'' → ∃ y, (results fn tmps).run P w'' = .ok y w'' ∧ R (.returned y) w'') → LeavesInM (Fn r0) 0 P fn tmps R ds .returning w'
  | [], w', hst, hm, h => by
    obtain ⟨y, h1, h2⟩ := h w' hst
    exact ⟨y, h1, h2⟩
  | d :: ds, w', hst, ⟨rs, h1, h2, h3⟩, h => by
    cases rs with
    | nil => simp at h1
    | cons r rs =>
      simp only [List.map_cons, List.cons.injEq] at h1
      obtain ⟨rfl, rfl⟩ := h1
      have hr := h3 r (by simp)
      refine ⟨by simp, .inl ⟨r, _, rfl, run_take hr.2, ?_⟩⟩
      refine leaves_ok hw _ _ (hst.shut hr.2 hr.1) ⟨rs, rfl, (List.nodup_cons.1 h2).2, fun q hq => ?_⟩ h
      have := h3 q (by simp [hq])
      refine ⟨this.1, ?_⟩
      show (w'.heap.setIfInBounds r _)[q]? = _
      rw [Array.getElem?_setIfInBounds, if_neg (fun e => (List.nodup_cons.1 h2).1 (by rw [e]; exact hq))]
      exact this.2

/-- one result -/
def resSem (tmps : Array Value) : ResultVar → Sem Value
  | .tmp t => pure (tmps.getD t undef)
  | .cell a t => do loadVar t (← asAddr (tmps.getD a undef))

theorem res1_ok {x : ResultVar} {tmps : Array Value} (h : res1 tm s (cRes P x) = some v) (hx : resOk P x = true) (hw : RW P σ D s w) (ht : Rt σ D tm tmps) : ∃ y, (resSem tmps x).run P w = .ok y w ∧ R σ D v y := by
  cases x with
  | tmp t =>
    simp only [cRes, res1, Option.some.injEq] at h
    subst h
    exact ⟨_, rfl, ht t⟩
  | cell a ty =>
    simp only [resOk] at hx
    obtain ⟨d, hd⟩ := Option.isSome_iff_exists.1 hx
    obtain ⟨i, hi⟩ := und_inf hd
    simp only [cRes, hd, Option.any_some, cellsOf_eq hi, res1] at h
    split at h
    · rename_i b o' he
      have hv := ht a
      rw [he] at hv
      obtain ⟨hp, _⟩ := ptr_of hv
      obtain ⟨y, h1, h2⟩ := run_loadVar hd hi hw rfl h
      refine ⟨y, ?_, h2⟩
      simp only [resSem, hp, asAddr, Sem.run_bind, Sem.run_pure, Result.andThen_ok, h1]
    · simp at h

theorem resV_ok {tmps : Array Value} (hw : RW P σ D s w) (ht : Rt σ D tm tmps) : ∀ {l : List ResultVar} {vs : List AV}, resV tm s (l.map (cRes P)) = some vs → (l.all (resOk P) = true) →
    ∃ m, (l.mapM (resSem tmps)).run P w = .ok m w ∧ Rs σ D vs m
  | [], vs, h, _ => by simp [resV] at h; subst h; exact ⟨[], by simp, .nil⟩
  | x :: l, vs, h, ha => by
    simp only [List.map_cons, resV] at h
    simp only [List.all_cons, Bool.and_eq_true] at ha
    split at h
    · simp at h
    · rename_i v hv
      split at h
      · simp at h
      · rename_i us hu
        simp only [Option.some.injEq] at h; subst h
        obtain ⟨y, h1, h2⟩ := res1_ok hv ha.1 hw ht
        obtain ⟨m, h3, h4⟩ := resV_ok hw ht hu ha.2
        exact ⟨y :: m, by rw [List.mapM_cons]; simp only [Sem.run_bind, h1, h3, Result.andThen_ok, Sem.run_pure], .cons _ _ _ _ h2 h4⟩

theorem results_ok {fn : Func} {tmps : Array Value} {vs : List AV} (hw : RW P σ D s w) (ht : Rt σ D tm tmps) (h : resV tm s (fn.results.toList.map (cRes P)) = some vs) (ha : fn.results.toList.all (resOk P) = true) :
    ∃ y, (results fn tmps).run P w = .ok y w ∧ R σ D (oneV vs) y := by
  obtain ⟨m, h1, h2⟩ := resV_ok hw ht h ha
  have hrun : (fn.results.mapM (resSem tmps)).run P w = .ok ⟨m⟩ w := by
    rw [Array.mapM_eq_mapM_toList]
    simp only [map_eq_pure_bind, Sem.run_bind, h1, Result.andThen_ok, Sem.run_pure]
  have hres : results fn tmps = (do let vs ← fn.results.mapM (resSem tmps); pure (if h : vs.size = 1 then vs[0] else .tuple vs)) := by
    unfold results
    congr 1
  refine ⟨if h : (⟨m⟩ : Array Value).size = 1 then (⟨m⟩ : Array Value)[0] else .tuple ⟨m⟩, ?_, ?_⟩
  · rw [hres]; simp only [Sem.run_bind, hrun, Result.andThen_ok, Sem.run_pure]
  · cases h2 with
    | nil => exact .tup _ _ .nil
    | cons v y l m' h3 h4 =>
      cases h4 with
      | nil => exact h3
      | cons v2 y2 l2 m2 h5 h6 => exact .tup _ _ (.cons _ _ _ _ h3 (.cons _ _ _ _ h5 h6))

/-- the table of functions -/
def FnsOk (P : Program) (E : Env) : Prop := ∀ f afn, E.fns.get none f = some afn → ∃ fn c, P.funcs[f]? = some fn ∧ fn.body = some c ∧ cFunc P fn = some afn ∧ (fn.name == "runtime.NumGoroutine") = false

/-- what is asked of what is done by hand -/
def PrimsOk (P : Program) (E : Env) : Prop := ∀ f p, E.prim f = some p → ∀ args s v s', p args s = .ok v s' → Syn s s' ∧
  ∀ σ D w l, RW P σ D s w → Rs σ D args l → Off D s.nx s'.nx → Called P f l w (Aft P σ D s w v s')

theorem gt_e (k : Nat) : gt (.e : T AV) k = .tup [] := rfl

theorem callF_ok {E : Env} (hf : FnsOk P E) (hp : PrimsOk P E) {r : Rec} (hx : ∀ (c : Code) (tm : T AV) (s : S), execF r (cCode P c) tm s ≠ .no → Runs P c tm s (execF r (cCode P c) tm s)) {f : Nat} {args : List AV} (h : callF E r f args s = .ok v s') :
    Syn s s' ∧ ∀ σ D w l, RW P σ D s w → Rs σ D args l → Off D s.nx s'.nx → Called P f l w (Aft P σ D s w v s') := by
  unfold callF at h
  split at h
  · rename_i p hpp
    exact hp f p hpp args s v s' h
  · split at h
    · simp at h
    · rename_i body rs hfn
      obtain ⟨fn, c, h1, h2, h3, h4⟩ := hf f _ hfn
      simp only [cFunc, h2, Option.bind_some] at h3
      split at h3
      · rename_i hok
        rw [Bool.and_eq_true] at hok
        simp only [Option.some.injEq, AFunc.mk.injEq] at h3
        obtain ⟨rfl, rfl⟩ := h3
        -- the run of the body, and how it ends
        have hend : ∃ e tm1 s1, RXs (execF r (cCode P c) (setN args 0 .e) s) e tm1 s1 ∧ (e = .normal ∨ e = .ret) ∧ retV s.nx (fn.results.toList.map (cRes P)) tm1 s1 = .ok v s' := by
          split at h
          · simp at h
          · rename_i tm1 s1 hq; rw [hq]; exact ⟨_, _, _, .norm _ _, .inl rfl, h⟩
          · simp at h
          · rename_i tm1 s1 hq; rw [hq]; exact ⟨_, _, _, .ret _ _, .inr rfl, h⟩
        obtain ⟨e, tm1, s1, hX, he, hret⟩ := hend
        have hne : execF r (cCode P c) (setN args 0 .e) s ≠ .no := fun e => by rw [e] at hX; cases hX
        obtain ⟨hsyn, hrun⟩ := hx c _ s hne
        have huniq : ∀ {X : RX} {e e' : Exit} {t t' : T AV} {u u' : S}, RXs X e t u → RXs X e' t' u' → e = e' ∧ t = t' ∧ u = u' := by
          intro X e e' t t' u u' h h'; cases h <;> cases h' <;> exact ⟨rfl, rfl, rfl⟩
        unfold retV at hret
        split at hret
        · simp at hret
        · rename_i vs hvs
          obtain ⟨hh, nx, ws, hid⟩ := s1
          simp only [RV.ok.injEq] at hret
          obtain ⟨rfl, rfl⟩ := hret
          refine ⟨below_syn (hsyn _ _ _ hX), fun σ D w l hw hl hoff => .inr ⟨?_, ?_⟩⟩
          · have h4' : ¬ (fn.name = "runtime.NumGoroutine") := by simpa using h4
            simp [callFunc, h1, h4', h2]
          · refine callsIn_of_wp_marks h1 h2 trivial ?_
            have hsz : fn.ntmps ≤ ((⟨l⟩ : Array Value) ++ Array.replicate (fn.ntmps - (⟨l⟩ : Array Value).size) undef).size := by simp; omega
            have ht : Rt σ D (setN args 0 .e) ((⟨l⟩ : Array Value) ++ Array.replicate (fn.ntmps - (⟨l⟩ : Array Value).size) undef) := by
              intro t
              rw [gt_setN, Array.getD_eq_getD_getElem?, Array.getElem?_append]
              have hlen := hl.length
              by_cases hlt : t < args.length
              · rw [if_pos (by omega), if_pos (by simp; omega)]
                obtain ⟨y, hy, hr⟩ := hl.get t hlt
                simp only [Nat.sub_zero, List.getElem?_toArray, hy, Option.getD_some]
                exact hr
              · rw [if_neg (by omega), if_neg (by simp; omega), gt_e]
                have : (Array.replicate (fn.ntmps - (⟨l⟩ : Array Value).size) undef)[t - (⟨l⟩ : Array Value).size]?.getD undef = undef := by
                  rw [Array.getElem?_replicate]; split <;> rfl
                rw [this]
                exact .tup _ _ .nil
            refine wpIn_mono (hrun none σ D { tmps := (⟨l⟩ : Array Value) ++ Array.replicate (fn.ntmps - (⟨l⟩ : Array Value).size) undef, defers := [] } w w.heap.size hw ht (dOk_mono hsz hok.1) ⟨[], rfl, .nil, by simp⟩ (Nat.le_refl _) (fun h => absurd rfl h) (fun e' t' u' h' => by
              obtain ⟨_, _, rfl⟩ := huniq hX h'; exact hoff)) ?_
            rintro e' a' w' ⟨tm', s2, σ', hX', hst, ht', hn', hm'⟩
            obtain ⟨rfl, rfl, rfl⟩ := huniq hX hX'
            have key : LeavesInM (Fn none) 0 P fn a'.tmps (fun e w' => ∃ y, e = .returned y ∧ Aft P σ D s w (oneV vs) ⟨hh, nx, below s.nx ws, hid⟩ y w') a'.defers .returning w' := by
              refine leaves_ok hw _ _ hst hm' fun w'' hst'' => ?_
              obtain ⟨y, h5, h6⟩ := results_ok hst''.rw' ht' hvs hok.2
              exact ⟨y, h5, y, rfl, σ', below_stp hw hst'', h6⟩
            rcases he with rfl | rfl <;> exact key
      · simp at h3
end
end Go.VM

namespace Go.VM
open Go

section
variable {P : Program} {σ : Nat → Loc} {D : Nat → Prop} {s s' : S} {w : World} {a : Act} {tm : T AV} {v : AV} {o : Oper}

/-- what the text of the VM says of every run -/
structure SynRec (r : Rec) : Prop where
  call : ∀ f args s v s', r.call f args s = .ok v s' → Syn s s'
  round : ∀ l args s v s', r.round l args s = .ok v s' → Syn s s'
  exec : ∀ c tm s, XSyn s (r.exec c tm s)

theorem op1_syn {r : Rec} (hr : SynRec r) {o : AOpr} {tm tm' : T AV} (h : op1 r o tm s = .ok tm' s') : Syn s s' := by
  obtain ⟨v, _, h⟩ := op1_inv h
  rcases h with ⟨_, _, rfl⟩ | ⟨_, h | ⟨f, args, _, h⟩ | ⟨l, args, _, h⟩⟩
  · exact Syn.refl _
  · exact runOp_syn h
  · exact hr.call _ _ _ _ _ h
  · exact hr.round _ _ _ _ _ h

theorem ops1_syn {r : Rec} (hr : SynRec r) : ∀ (l : List AOpr) {tm tm' : T AV} {s s' : S}, ops1 r l tm s = .ok tm' s' → Syn s s'
  | [], tm, tm', s, s', h => by
    simp only [ops1_nil, RT.ok.injEq] at h; rw [h.2]; exact Syn.refl _
  | o :: l, tm, tm', s, s', h => by
    rw [ops1_cons] at h
    split at h
    · simp at h
    · rename_i tm1 s1 h1
      exact (op1_syn hr h1).trans (ops1_syn hr l h)

theorem mem_insAll (x : Nat) : ∀ (r l : List Nat), x ∈ insAll r l ↔ x ∈ r ∨ x ∈ l
  | [], l => by simp [insAll]
  | y :: r, l => by
    show x ∈ insAll r (ins y l) ↔ _
    rw [mem_insAll x r, mem_ins]
    simp only [List.mem_cons]
    constructor
    · rintro (h | h | h)
      · exact .inl (.inr h)
      · exact .inl (.inl h)
      · exact .inr h
    · rintro ((h | h) | h)
      · exact .inr (.inl h)
      · exact .inl h
      · exact .inr (.inr h)

theorem hidden_cons (x : Nat) (p : Nat × Nat) (l : List (Nat × Nat)) : hidden x (p :: l) = ((Nat.ble p.1 x && Nat.blt x p.2) || hidden x l) := by
  show @Bool.rec (fun _ => Bool) (hidden x l) (@Bool.rec (fun _ => Bool) (hidden x l) true (Nat.blt x p.2)) (Nat.ble p.1 x) = _
  cases Nat.ble p.1 x <;> cases Nat.blt x p.2 <;> simp

theorem hidden_append (x : Nat) (l m : List (Nat × Nat)) : hidden x (l ++ m) = (hidden x l || hidden x m) := by
  induction l with
  | nil => simp [hidden]
  | cons p l ih => rw [List.cons_append, hidden_cons, hidden_cons, ih, Bool.or_assoc]

/-- a step of a region in any order, as a step of the state -/
theorem stepD_syn {h h' : T AObj} {n0 n1 : Nat} {ws ws' ws'' : List Nat} {hid hid' hs : List (Nat × Nat)} (hst : Syn ⟨h, n0, [], hs ++ hid⟩ ⟨h', n1, ws', hid'⟩) (h1 : ∀ x, x ∈ ws → x ∈ ws'') (h2 : ∀ x, x ∈ ws' → x < n0 → x ∈ ws'') :
    Syn ⟨h, n0, ws, hid⟩ ⟨h', n1, ws'', hid⟩ :=
  ⟨hst.nx, rfl, fun x hx hn => hst.keep x hx fun hm => hn (h2 x hm hx), fun x hx _ => h1 x hx, fun x hh hx => hst.hidden x (by rw [hidden_append]; simp only [Bool.or_eq_true]; exact .inr hh) hx⟩

theorem opsD_cons (r : Rec) (o : AOpr) (l : List AOpr) (i : Nat) (al : List (Nat × Nat × Nat)) (ls : List Log) (any : Bool) (tm : T AV) (h : T AObj) (n0 : Nat) (ws : List Nat) (hid : List (Nat × Nat)) :
    opsD r (o :: l) i al ls any tm ⟨h, n0, ws, hid⟩ = match op1 r o tm ⟨h, n0, [], hides o.pred al ++ hid⟩ with
      | .no => .no
      | .ok tm' ⟨h', n1, ws', _⟩ =>
        match below n0 ws' with
        | [] => opsD r l (Nat.succ i) (match Nat.beq n0 n1 with | true => al | false => (i, n0, n1) :: al)
            (match o.mem with | true => ⟨i, o.pred, [], touches tm o.op⟩ :: ls | false => ls) any tm' ⟨h', n1, ws, hid⟩
        | x :: d => opsD r l (Nat.succ i) (match Nat.beq n0 n1 with | true => al | false => (i, n0, n1) :: al)
            (⟨i, o.pred, x :: d, touches tm o.op⟩ :: ls) true tm' ⟨h', n1, insAll (x :: d) ws, hid⟩ := rfl

theorem opsD_syn {r : Rec} (hr : SynRec r) : ∀ (l : List AOpr) {i : Nat} {al : List (Nat × Nat × Nat)} {ls : List Log} {any : Bool} {tm tm' : T AV} {s s' : S}, opsD r l i al ls any tm s = .ok tm' s' → Syn s s'
  | [], i, al, ls, any, tm, tm', s, s', h => by
    have e : opsD r [] i al ls any tm s = opsEnd any ls tm s := rfl
    rw [e] at h
    unfold opsEnd at h
    repeat' split at h
    all_goals first
      | (simp at h; done)
      | (simp only [RT.ok.injEq] at h; rw [h.2]; exact Syn.refl _)
  | o :: l, i, al, ls, any, tm, tm', ⟨hh, n0, ws, hid⟩, s', h => by
    rw [opsD_cons] at h
    split at h
    · simp at h
    · rename_i tm1 h' n1 ws' hid' h1
      have hs := op1_syn hr h1
      split at h
      · rename_i hb
        refine (stepD_syn hs (fun x hx => hx) fun x hx hl => ?_).trans (opsD_syn hr l h)
        have := (below_mem n0 x ws').2 ⟨hx, hl⟩
        rw [hb] at this; simp at this
      · rename_i x d hb
        refine (stepD_syn hs (fun y hy => (mem_insAll _ _ _).2 (.inr hy)) fun y hy hl => (mem_insAll _ _ _).2 (.inl ?_)).trans (opsD_syn hr l h)
        have := (below_mem n0 y ws').2 ⟨hy, hl⟩
        rw [hb] at this; exact this

theorem XSyn.no : XSyn s .no := fun _ _ _ h => by cases h
theorem XSyn.of_norm {tm' : T AV} (h : Syn s s') : XSyn s (.norm tm' s') := fun _ _ _ hx => by cases hx; exact h
theorem XSyn.trans {s1 : S} {X : RX} (h : Syn s s1) (k : XSyn s1 X) : XSyn s X := fun e tm' s' hx => h.trans (k e tm' s' hx)

theorem xRange_syn {r : Rec} (hr : SynRec r) (x : Opd) (ps : List Nat) (asg body : ACode) (tm : T AV) (s : S) : XSyn s (xRange r x ps asg body tm s) := by
  unfold xRange
  split
  · rename_i g first caps he
    split
    · exact .no
    · obtain ⟨h, n, ws, hid⟩ := s
      simp only
      have hnew : Syn ⟨h, n, ws, hid⟩ ⟨h.set .non n (.loop tm ps asg body 0 none), Nat.succ n, ws, hid⟩ := new_syn ⟨h, n, ws, hid⟩ (.loop tm ps asg body 0 none)
      split
      · exact .no
      · rename_i v1 s1 hc
        have h1 := hnew.trans (hr.call _ _ _ _ _ hc)
        split
        · rename_i t2 p2 a2 b2 st pend hg
          have h2 := h1.trans (upd_syn s1 n .non (by rw [hg]; simp))
          split
          · exact .no
          · split
            · exact .of_norm h2
            · split
              · intro _ _ _ hx; cases hx; exact h2
              · intro _ _ _ hx; cases hx; exact h2
              · exact .no
        · exact .no
  · exact .no

theorem execF_syn {r : Rec} (hr : SynRec r) : ∀ (c : ACode) (tm : T AV) (s : S), XSyn s (execF r c tm s)
  | .skip, tm, s => .of_norm (Syn.refl _)
  | .exit id, tm, s => fun _ _ _ h => by cases h; exact Syn.refl _
  | .ret, tm, s => fun _ _ _ h => by cases h; exact Syn.refl _
  | .bad _, tm, s => .no
  | .region ops draw, tm, s => by
    have e : execF r (.region ops draw) tm s = xReg r ops draw tm s := rfl
    rw [e]
    unfold xReg
    split
    · split
      · exact .no
      · rename_i tm1 s1 h; exact .of_norm (ops1_syn hr _ h)
    · split
      · exact .no
      · rename_i tm1 s1 h; exact .of_norm (opsD_syn hr _ h)
  | .seq a b, tm, s => by
    have e : execF r (.seq a b) tm s = xSeq (execF r a) (execF r b) tm s := rfl
    rw [e, xSeq_eq]
    have ha := execF_syn hr a tm s
    cases hf : execF r a tm s with
    | no => exact .no
    | norm tm1 s1 => rw [hf] at ha; exact .trans (ha _ _ _ (.norm _ _)) (execF_syn hr b tm1 s1)
    | exit i tm1 s1 => rw [hf] at ha; exact ha
    | ret tm1 s1 => rw [hf] at ha; exact ha
  | .cond c a b, tm, s => by
    have e : execF r (.cond c a b) tm s = xCond c (execF r a) (execF r b) tm s := rfl
    rw [e]
    unfold xCond
    split
    · rename_i t _
      cases t with
      | true => exact execF_syn hr a tm s
      | false => exact execF_syn hr b tm s
    · exact .no
  | .block id b, tm, s => by
    have e : execF r (.block id b) tm s = xBlock id (execF r b) tm s := rfl
    rw [e, xBlock_eq]
    have hb := execF_syn hr b tm s
    cases hf : execF r b tm s with
    | no => exact .no
    | norm tm1 s1 => rw [hf] at hb; exact hb
    | exit i tm1 s1 =>
      rw [hf] at hb
      have := hb _ _ _ (.exit _ _ _)
      simp only
      split
      · exact .of_norm this
      · exact hb
    | ret tm1 s1 => rw [hf] at hb; exact hb
  | .loop b, tm, s => by
    have e : execF r (.loop b) tm s = xSeq (execF r b) (r.exec (.loop b)) tm s := rfl
    rw [e, xSeq_eq]
    have hb := execF_syn hr b tm s
    cases hf : execF r b tm s with
    | no => exact .no
    | norm tm1 s1 => rw [hf] at hb; exact .trans (hb _ _ _ (.norm _ _)) (hr.exec _ tm1 s1)
    | exit i tm1 s1 => rw [hf] at hb; exact hb
    | ret tm1 s1 => rw [hf] at hb; exact hb
  | .rangeF x ps asg body, tm, s => xRange_syn hr x ps asg body tm s

theorem retV_syn {s0 s1 : S} {rs : List ARes} (h : retV s0.nx rs tm s1 = .ok v s') (hs : Syn s0 s1) : Syn s0 s' := by
  unfold retV at h
  split at h
  · simp at h
  · obtain ⟨hh, nx, ws, hid⟩ := s1
    simp only [RV.ok.injEq] at h
    rw [← h.2]
    exact below_syn hs

theorem callF_syn {E : Env} (hp : ∀ f p, E.prim f = some p → ∀ args s v s', p args s = .ok v s' → Syn s s') {r : Rec} (hr : SynRec r) {f : Nat} {args : List AV} (h : callF E r f args s = .ok v s') : Syn s s' := by
  unfold callF at h
  split at h
  · rename_i p hpp; exact hp f p hpp _ _ _ _ h
  · split at h
    · simp at h
    · rename_i body rs hfn
      have hx := execF_syn hr body (setN args 0 .e) s
      split at h
      · simp at h
      · rename_i tm1 s1 hq; rw [hq] at hx; exact retV_syn h (hx _ _ _ (.norm _ _))
      · simp at h
      · rename_i tm1 s1 hq; rw [hq] at hx; exact retV_syn h (hx _ _ _ (.ret _ _))

theorem endR_syn {l n : Nat} {b : Bool} {pend : Option ACode} (h : endR l b n pend s = .ok v s') : Syn s s' := by
  unfold endR at h
  split at h
  · rename_i hg
    simp only [RV.ok.injEq] at h
    rw [← h.2]
    exact upd_syn s l _ (by rw [hg]; simp)
  · simp at h

theorem bodyR_syn {r : Rec} (hr : SynRec r) {l : Nat} {body : ACode} (h : bodyR r l body tm s = .ok v s') : Syn s s' := by
  unfold bodyR at h
  have hx := execF_syn hr body tm s
  split at h
  · simp at h
  · rename_i t s1 hq; rw [hq] at hx; exact (hx _ _ _ (.norm _ _)).trans (endR_syn h)
  · rename_i i t s1 hq; rw [hq] at hx; exact (hx _ _ _ (.exit _ _ _)).trans (endR_syn h)
  · rename_i t s1 hq; rw [hq] at hx; exact (hx _ _ _ (.ret _ _)).trans (endR_syn h)

theorem begR_syn {r : Rec} (hr : SynRec r) {l : Nat} {body : ACode} (h : begR r l body tm s = .ok v s') : Syn s s' := by
  unfold begR at h
  split at h
  · rename_i hg
    split at h
    · exact (upd_syn s l _ (by rw [hg]; simp)).trans (bodyR_syn hr h)
    · simp at h
  · simp at h

theorem roundF_syn {r : Rec} (hr : SynRec r) {l : Nat} {args : List AV} (h : roundF r l args s = .ok v s') : Syn s s' := by
  unfold roundF at h
  split at h
  · rename_i t ps asg body n pend hg
    split at h
    · simp at h
    · have hx := execF_syn hr asg (setPs ps args t) s
      split at h
      · rename_i t1 s1 hq
        rw [hq] at hx
        exact (hx _ _ _ (.norm _ _)).trans (begR_syn hr h)
      · simp at h
  · simp at h

theorem vm_syn {E : Env} (hp : ∀ f p, E.prim f = some p → ∀ args s v s', p args s = .ok v s' → Syn s s') : ∀ n, SynRec (vm E n)
  | 0 => { call := fun _ _ _ _ _ h => (by cases h), round := fun _ _ _ _ _ h => (by cases h), exec := fun _ _ _ => XSyn.no }
  | n + 1 => ⟨fun _ _ _ _ _ h => callF_syn hp (vm_syn hp n) h, fun _ _ _ _ _ h => roundF_syn (vm_syn hp n) h, fun c tm s => execF_syn (vm_syn hp n) c tm s⟩
end
end Go.VM

namespace Go.VM
open Go

section
variable {P : Program} {σ : Nat → Loc} {D : Nat → Prop} {s s' : S} {w : World} {a : Act} {tm : T AV} {v : AV} {o : Oper}

theorem setPs_ok : ∀ {ps : List Nat} {args : List AV} {m : List Value} {tm : T AV} {tmps : Array Value}, Rt σ D tm tmps → Rs σ D args m → (∀ p ∈ ps, p < tmps.size) →
    Rt σ D (setPs ps args tm) ((ps.zip m).foldl (fun tmps (p : Nat × Value) => tmps.setIfInBounds p.1 p.2) tmps)
  | [], args, m, tm, tmps, ht, _, _ => by simpa [setPs] using ht
  | p :: ps, args, m, tm, tmps, ht, hr, hp => by
    cases hr with
    | nil => simpa [setPs] using ht
    | cons x y l m' h1 h2 =>
      simp only [setPs, List.zip_cons_cons, List.foldl_cons]
      refine setPs_ok ?_ h2 (fun q hq => by simpa using hp q (by simp [hq]))
      intro k
      rw [gt_st, Array.getD_eq_getD_getElem?, Array.getElem?_setIfInBounds]
      by_cases h : k = p
      · subst h; rw [if_pos rfl, if_pos rfl, if_pos (hp k (by simp))]; exact h1
      · rw [if_neg h, if_neg (fun e => h e.symm), ← Array.getD_eq_getD_getElem?]; exact ht k

theorem RW.loop (hw : RW P σ D s w) {l : Nat} {tm : T AV} {ps : List Nat} {asg body : ACode} {st : Nat} {pend : Option ACode} (h : s.get l = .loop tm ps asg body st pend) :
    ∃ L : Loop, w.heap[(σ l).blk]? = some (.loop L) ∧ L.params = ⟨ps⟩ ∧ asg = cCode P L.assign ∧ body = cCode P L.body ∧
      Rt σ D tm L.tmps ∧ (∀ p ∈ ps, p < L.tmps.size) ∧ (dOk L.tmps.size asg = true ∧ dOk L.tmps.size body = true ∧ flat asg = true ∧ flat body = true) ∧ Rst st L.state ∧ RPend P pend L.pending := by
  have := hw.obj l (by rw [h]; simp)
  rw [h] at this; exact this

theorem lget {l : Nat} {L : Loop} (h : w.heap[l]? = some (.loop L)) : (Instr.getLoop l).run P w = .ok L w := by
  simp [Instr.getLoop, getObj, Sem.run, h, Sem.run_bind]
theorem lset {l : Nat} {L : Loop} (nb : Obj) (h : w.heap[l]? = some (.loop L)) : (setObj l nb).run P w = .ok () { w with heap := w.heap.setIfInBounds l nb } := by
  simp [setObj, Sem.run, h]

theorem Stp.setLoop {l : Nat} {L L' : Loop} {ob : AObj} (hw : RW P σ D s w) (hv : s.get l ≠ .non) (h : w.heap[(σ l).blk]? = some (.loop L))
    (ho : RO P σ D ob (σ l) { w with heap := w.heap.setIfInBounds (σ l).blk (.loop L') }) :
    Stp P σ D s w σ (s.upd l ob) { w with heap := w.heap.setIfInBounds (σ l).blk (.loop L') } := by
  refine Stp.upd hw hv (by simp) rfl rfl rfl (fun b hb => ?_) ho
  show (w.heap.setIfInBounds _ _)[b]? = _
  rw [Array.getElem?_setIfInBounds, if_neg (fun e => hb e.symm)]

theorem heap_set {l : Nat} {L : Loop} {x : Obj} (h : w.heap[l]? = some (.loop L)) : (w.heap.setIfInBounds l x)[l]? = some x := by
  rw [Array.getElem?_setIfInBounds, if_pos rfl, if_pos (Array.getElem?_eq_some_iff.1 h).1]

theorem begin_run {l : Nat} {L : Loop} (h : w.heap[l]? = some (.loop L)) (hs : L.state = .ready) :
    (Instr.beginRound l).run P w = .ok () { w with heap := w.heap.setIfInBounds l (.loop { L with state := .busy }) } := by
  simp only [Instr.beginRound, Sem.run_bind, lget h, Result.andThen_ok, lset _ h, hs, Sem.run_pure]

theorem end_run {l : Nat} {L : Loop} (j : Option Code) (h : w.heap[l]? = some (.loop L)) :
    (Instr.endRound l j).run P w = .ok (.bool j.isNone) { w with heap := w.heap.setIfInBounds l (.loop { L with state := if j.isNone then .ready else .done, pending := j }) } := by
  simp only [Instr.endRound, Sem.run_bind, lget h, Result.andThen_ok, lset _ h, Sem.run_pure]

theorem endR_ok {l n : Nat} {b : Bool} {j : Option Code} {pend : Option ACode} (h : endR l b n pend s = .ok v s') (hj : RPend P pend j) (hb : b = j.isNone) (hn : n = if j.isNone then 0 else 2) (hw : RW P σ D s w) :
    ∃ w', (Instr.endRound (σ l).blk j).run P w = .ok (.bool b) w' ∧ Stp P σ D s w σ s' w' ∧ v = .bool b := by
  unfold endR at h
  split at h
  · rename_i tm ps asg body st p0 hg
    simp only [RV.ok.injEq] at h
    obtain ⟨rfl, rfl⟩ := h
    obtain ⟨L, h1, h2, h3, h4, h5, h6, h7, h8, h9⟩ := hw.loop hg
    have hrun := end_run (P := P) j h1
    refine ⟨_, by rw [hrun, hb], Stp.setLoop hw (by rw [hg]; simp) h1 ⟨{ L with state := if j.isNone then .ready else .done, pending := j }, heap_set h1, h2, h3, h4, h5, h6, h7, ?_, hj⟩, rfl⟩
    rw [hn]
    cases j <;> exact trivial
  · simp at h

theorem Stp.trans' {s₁ : S} {σ₁ σ₂ : Nat → Loc} {w₁ w₂ : World} (ha : Syn s s₁) (hb : Syn s₁ s') (hw : RW P σ D s w) (h : Stp P σ D s w σ₁ s₁ w₁) (k : Stp P σ₁ (Up D s.nx s₁.nx) s₁ w₁ σ₂ s' w₂) : Stp P σ D s w σ₂ s' w₂ :=
  Stp.trans ha hb hw h k

/-- the body of a round, from its begin on -/
theorem bodyR_ok {r : Rec} (hx : ∀ (c : Code) (tm : T AV) (s : S), execF r (cCode P c) tm s ≠ .no → Runs P c tm s (execF r (cCode P c) tm s)) (hsr : SynRec r) {l : Nat} {body : Code}
    (h : bodyR r l (cCode P body) tm s = .ok v s') (hw : RW P σ D s w) (ht : Rt σ D tm a.tmps) (hdk : dOk a.tmps.size (cCode P body) = true) (hfl : flat (cCode P body) = true) {h0 : Nat} (hm : Marks h0 a.defers w) (hh0 : h0 ≤ w.heap.size) (hD : D l) (hoff : Off D s.nx s'.nx) :
    body.wpIn (Fn (some (σ l).blk)) 0 P (roundPost P (σ l).blk (fun e w' => ∃ y, e = .returned y ∧ Aft P σ D s w v s' y w')) a w := by
  unfold bodyR at h
  have hsyn := execF_syn hsr (cCode P body) tm s
  have hne : execF r (cCode P body) tm s ≠ .no := fun e => by rw [e] at h; cases h
  obtain ⟨_, hr⟩ := hx body tm s hne
  have key : ∀ e tm1 s1 j b n pend, RXs (execF r (cCode P body) tm s) e tm1 s1 → endR l b n pend s1 = .ok v s' → RPend P pend j → b = j.isNone → (n = if j.isNone then 0 else 2) →
      (∀ (w' : World) (R : Ending → World → Prop) a', (∃ y w'', (Instr.endRound (σ l).blk j).run P w' = .ok y w'' ∧ R (.returned y) w'') → roundPost P (σ l).blk R e a' w') →
      body.wpIn (Fn (some (σ l).blk)) 0 P (roundPost P (σ l).blk (fun e w' => ∃ y, e = .returned y ∧ Aft P σ D s w v s' y w')) a w := by
    intro e tm1 s1 j b n pend hX hend hj hb hn hpost
    have hs1 := hsyn _ _ _ hX
    have hs2 := endR_syn hend
    have huniq : ∀ {X : RX} {e e' : Exit} {t t' : T AV} {u u' : S}, RXs X e t u → RXs X e' t' u' → e = e' ∧ t = t' ∧ u = u' := by
      intro X e e' t t' u u' h h'; cases h <;> cases h' <;> exact ⟨rfl, rfl, rfl⟩
    refine wpIn_mono (hr (some (σ l).blk) σ D a w h0 hw ht hdk hm hh0 (fun _ => hfl) (fun e' t' u' h' => by obtain ⟨_, _, rfl⟩ := huniq hX h'; exact hoff.left hs2.nx)) ?_
    rintro e' a1 w1 ⟨tm', s2, σ1, hX', hst, _, _, _⟩
    obtain ⟨rfl, rfl, rfl⟩ := huniq hX hX'
    obtain ⟨w2, h1, h2, rfl⟩ := endR_ok hend hj hb hn hst.rw'
    rw [hst.ext l hD] at h1
    exact hpost w1 _ a1 ⟨_, w2, h1, _, rfl, σ1, Stp.trans hs1 hs2 hw hst h2, .bool _⟩
  split at h
  · cases h
  · rename_i t s1 hq
    exact key .normal t s1 none true 0 none (by rw [hq]; exact .norm _ _) h trivial rfl rfl fun w' R a' h => h
  · rename_i id t s1 hq
    exact key (.exit id) t s1 (some (.exit id)) false 2 (some (.exit id)) (by rw [hq]; exact .exit _ _ _) h rfl rfl rfl fun w' R a' h => h
  · rename_i t s1 hq
    exact key .ret t s1 (some .ret) false 2 (some .ret) (by rw [hq]; exact .ret _ _) h rfl rfl rfl fun w' R a' h => h

theorem roundF_ok {r : Rec} (hx : ∀ (c : Code) (tm : T AV) (s : S), execF r (cCode P c) tm s ≠ .no → Runs P c tm s (execF r (cCode P c) tm s)) (hsr : SynRec r) {l : Nat} {args : List AV} (h : roundF r l args s = .ok v s') :
    Syn s s' ∧ ∀ σ D w m, RW P σ D s w → Rs σ D args m → Off D s.nx s'.nx → ∃ fn tmps asg body, (Instr.yield (σ l).blk ⟨m⟩).run P w = .ok (.round (σ l).blk fn tmps asg body) w ∧
      RoundIn (Fn none) 0 P (σ l).blk fn tmps asg body w (fun e w' => ∃ y, e = .returned y ∧ Aft P σ D s w v s' y w') := by
  refine ⟨roundF_syn hsr h, fun σ D w m hw hm hoff => ?_⟩
  unfold roundF at h
  split at h
  · rename_i t ps asg body n pend hg
    split at h
    · cases h
    · rename_i hlen
      have hlen' := Nat.eq_of_beq_eq_true hlen
      split at h
      · rename_i t1 s1 hq
        obtain ⟨L, h1, h2, h3, h4, h5, h6, ⟨h7a, h7b, h7c, h7d⟩, h8, h9⟩ := hw.loop hg
        subst h3; subst h4
        have hml := hm.length
        have hD := hw.dom l (by rw [hg]; simp)
        have hrun : (Instr.yield (σ l).blk ⟨m⟩).run P w = .ok (.round (σ l).blk L.fn ((ps.zip m).foldl (fun tmps (p : Nat × Value) => tmps.setIfInBounds p.1 p.2) L.tmps) L.assign L.body) w := by
          simp only [Instr.yield, Sem.run_bind, lget h1, Result.andThen_ok, h2]
          rw [if_neg (by simp; omega)]
          simp
        refine ⟨_, _, _, _, hrun, roundIn_of_wpIn trivial ?_⟩
        have hsyn := execF_syn hsr (cCode P L.assign) (setPs ps args t) s
        rw [hq] at hsyn
        have hs1 := hsyn _ _ _ (.norm _ _)
        have hs2 := begR_syn hsr h
        have hne : execF r (cCode P L.assign) (setPs ps args t) s ≠ .no := fun e => by rw [e] at hq; cases hq
        obtain ⟨_, hr⟩ := hx L.assign _ s hne
        rw [hq] at hr
        have hsz : ((ps.zip m).foldl (fun tmps (p : Nat × Value) => tmps.setIfInBounds p.1 p.2) L.tmps).size = L.tmps.size := by
          generalize ps.zip m = z
          generalize L.tmps = q
          induction z generalizing q with
          | nil => rfl
          | cons p z ih => rw [List.foldl_cons, ih]; simp
        refine wpIn_mono (hr (some (σ l).blk) σ D { tmps := (ps.zip m).foldl (fun tmps (p : Nat × Value) => tmps.setIfInBounds p.1 p.2) L.tmps, defers := [] } w w.heap.size hw (setPs_ok h5 hm h6) (by rw [hsz]; exact h7a) ⟨[], rfl, .nil, by simp⟩ (Nat.le_refl _) (fun _ => h7c)
          (fun e' t' u' h' => by cases h'; exact hoff.left hs2.nx)) ?_
        rintro e' a1 w1 ⟨tm', s2, σ1, hX', hst, ht1, hn1, hm1⟩
        cases hX'
        unfold begR at h
        split at h
        · rename_i t0 ps0 asg0 body0 n0 pend0 hg0
          split at h
          · obtain ⟨L1, k1, k2, k3, k4, k5, k6, k7, k8, k9⟩ := hst.rw'.loop hg0
            have hrd : L1.state = .ready := by
              cases hq : L1.state <;> rw [hq] at k8 <;> first | rfl | exact k8.elim
            have hbeg := begin_run (P := P) k1 hrd
            have hstl := Stp.setLoop (L' := { L1 with state := .busy }) (ob := .loop t0 ps0 asg0 body0 1 pend0) hst.rw' (by rw [hg0]; simp) k1 ⟨{ L1 with state := .busy }, heap_set k1, k2, k3, k4, k5, k6, k7, trivial, k9⟩
            rw [hst.ext l hD] at hbeg hstl
            have hsu := upd_syn s1 l (.loop t0 ps0 asg0 body0 1 pend0) (by rw [hg0]; simp)
            have hsb := bodyR_syn hsr h
            refine ⟨_, hbeg, ?_⟩
            have hD1 : Up D s.nx s1.nx l := .inl hD
            have hnx : (s1.upd l (.loop t0 ps0 asg0 body0 1 pend0)).nx = s1.nx := upd_nx _ _ _
            have hrw2 := hstl.rw'
            have hb := bodyR_ok (a := a1) hx hsr h hrw2 (ht1.mono (fun _ _ => rfl) fun _ h => .inl h) (by rw [hn1, hsz]; exact h7b) h7d (hm1.stp hstl hst.rw') (Nat.le_trans hst.size hstl.size) (.inl hD1) (by rw [hnx]; exact (by
              have := hoff.right hs1.nx
              have e : Up (Up D s.nx s1.nx) s1.nx s1.nx = Up D s.nx s1.nx := funext fun x => propext Up.self
              rw [e]; exact this))
            rw [hst.ext l hD] at hb
            have hcv : ∀ (e : Ending) (w' : World), (∃ y, e = .returned y ∧ Aft P σ1 (Up (Up D s.nx s1.nx) s1.nx (s1.upd l (.loop t0 ps0 asg0 body0 1 pend0)).nx) (s1.upd l (.loop t0 ps0 asg0 body0 1 pend0)) { w1 with heap := w1.heap.setIfInBounds (σ l).blk (.loop { L1 with state := .busy }) } v s' y w') → ∃ y, e = .returned y ∧ Aft P σ D s w v s' y w' := by
              rintro e w' ⟨y, rfl, σ2, hst2, hy⟩
              have hs12 := Stp.trans hsu hsb hst.rw' hstl hst2
              have hfin := Stp.trans hs1 (hsu.trans hsb) hw hst hs12
              refine ⟨y, rfl, σ2, hfin, ?_⟩
              have e1 : Up (Up (Up D s.nx s1.nx) s1.nx (s1.upd l (.loop t0 ps0 asg0 body0 1 pend0)).nx) (s1.upd l (.loop t0 ps0 asg0 body0 1 pend0)).nx s'.nx = Up D s.nx s'.nx := by
                funext x
                apply propext
                rw [up_up hsu.nx hsb.nx, up_up hs1.nx (hsu.trans hsb).nx]
              rw [e1] at hy
              exact hy
            refine wpIn_mono hb fun e a2 w2 hp => ?_
            cases e <;> first
              | (obtain ⟨y, w3, p1, p2⟩ := hp; exact ⟨y, w3, p1, hcv _ _ p2⟩)
              | exact hp
          · cases h
        · cases h
      · cases h
  · cases h
end
end Go.VM

namespace Go.VM
open Go

section
variable {P : Program} {σ : Nat → Loc} {D : Nat → Prop} {s s' : S} {w : World} {a : Act} {tm : T AV} {v : AV} {o : Oper}

/-- a block that no name sees -/
theorem Stp.extra (ob : Obj) (hw : RW P σ D s w) : Stp P σ D s w σ s { w with heap := w.heap.push ob } := by
  have hb : ∀ b, b < w.heap.size → (w.heap.push ob)[b]? = w.heap[b]? := fun b hb => by
    rw [Array.getElem?_push]; rw [if_neg (by omega)]
  refine ⟨fun _ _ => rfl, ?_, by simp, rfl, rfl, rfl, fun b h _ => hb b h, fun x h => .inl h⟩
  have base : RW P σ D s { w with heap := w.heap.push ob } :=
    ⟨hw.dom, hw.lt, fun x hx => (hw.obj x hx).mono (fun _ _ => rfl) (fun _ h => h) (hb _ ((hw.obj x hx).lt hx)), hw.inj⟩
  exact base.congrD fun _ => Up.self.symm

theorem enter_run (fn : FuncId) (tmps : Array Value) (ps : Array Tmp) (asg body : Code) :
    (Instr.enterLoop fn tmps ps asg body none).run P w = .ok (w.heap.size + 1, [{ target := .collected w.heap.size, args := #[] }])
      { w with heap := (w.heap.push (.deferred (some []))).push (.loop { state := .ready, pending := none, fn, tmps, params := ps, assign := asg, body, defers := w.heap.size }) } := by
  simp [Instr.enterLoop, newObj, Sem.run_bind, Sem.run]
  rfl

theorem endLoop_run {l : Nat} {L : Loop} (h : w.heap[l]? = some (.loop L)) (hs : L.state ≠ .busy) :
    (Instr.endLoop l).run P w = .ok L.pending { w with heap := w.heap.setIfInBounds l (.loop { L with state := .exhausted }) } := by
  have : (L.state == LoopState.busy) = false := by cases hq : L.state <;> first | rfl | exact absurd hq hs
  simp only [Instr.endLoop, Sem.run_bind, lget h, Result.andThen_ok, this, Bool.false_eq_true, if_false, lset _ h, Sem.run_pure]

/-- how a loop over a function is left -/
def PendE : Option ACode → Exit → Prop
  | none, .normal => True
  | some (.exit id), .exit i => i = id
  | some .ret, .ret => True
  | _, _ => False

theorem xRange_inv {r : Rec} {x : Opd} {ps : List Nat} {asg body : ACode} (hn : xRange r x ps asg body tm s ≠ .no) :
    ∃ g first caps v s2 t2 p2 a2 b2 st pend e0, evalO tm x = .fn g first caps ∧ flat asg = true ∧ flat body = true ∧ r.call g (first ++ [.yld s.nx] ++ caps) (newS s (.loop tm ps asg body 0 none)) = .ok v s2 ∧
      s2.get s.nx = .loop t2 p2 a2 b2 st pend ∧ st ≠ 1 ∧ RXs (xRange r x ps asg body tm s) e0 tm (s2.upd s.nx .non) ∧ PendE pend e0 := by
  unfold xRange at hn ⊢
  split at hn
  · rename_i g first caps he
    split at hn
    · exact absurd rfl hn
    · rename_i hfl
      rw [Bool.and_eq_true] at hfl
      obtain ⟨h, n, ws, hid⟩ := s
      simp only at hn ⊢
      split at hn
      · exact absurd rfl hn
      · rename_i v s2 hc
        split at hn
        · rename_i t2 p2 a2 b2 st pend hg
          split at hn
          · exact absurd rfl hn
          · rename_i hst
            have hst' : st ≠ 1 := fun e => by rw [e] at hst; cases hst
            have hfl2 : (flat asg && flat body) = true := by rw [hfl.1, hfl.2]; rfl
            refine ⟨g, first, caps, v, s2, t2, p2, a2, b2, st, pend, ?_⟩
            cases pend with
            | none => exact ⟨.normal, he, hfl.1, hfl.2, hc, hg, hst', .norm _ _, trivial⟩
            | some c =>
              simp only at hn ⊢
              cases c with
              | exit id => exact ⟨.exit id, he, hfl.1, hfl.2, hc, hg, hst', .exit _ _ _, rfl⟩
              | ret => exact ⟨.ret, he, hfl.1, hfl.2, hc, hg, hst', .ret _ _, trivial⟩
              | _ => exact absurd rfl hn
        · exact absurd rfl hn
  · exact absurd rfl hn

theorem RXs.uniq {X : RX} {e e' : Exit} {t t' : T AV} {u u' : S} (h : RXs X e t u) (h' : RXs X e' t' u') : e = e' ∧ t = t' ∧ u = u' := by
  cases h <;> cases h' <;> exact ⟨rfl, rfl, rfl⟩

/-- the code that is left behind a loop over a function -/
theorem pend_wp {F : Fence} {n : Nat} {pend : Option ACode} {e0 : Exit} {j : Option Code} {Q : Exit → Act → World → Prop} (hp : PendE pend e0) (hr : RPend P pend j) (h : Q e0 a w) :
    (j = none → Q .normal a w) ∧ ∀ c, j = some c → c.wpIn F n P Q a w := by
  refine ⟨fun hj => ?_, fun c hj => ?_⟩
  · subst hj
    cases pend with
    | none => cases e0 <;> first | exact h | exact hp.elim
    | some c => exact hr.elim
  · subst hj
    cases pend with
    | none => exact hr.elim
    | some ac =>
      have hr' : ac = cCode P c := hr
      subst hr'
      cases c with
      | exit id =>
        cases e0 <;> first | exact hp.elim | skip
        rename_i i
        have : i = id := hp
        subst this
        exact wpIn_exit h
      | ret =>
        cases e0 <;> first | exact hp.elim | skip
        exact wpIn_ret h
      | region id ops draw =>
        exfalso
        simp only [cCode] at hp
        split at hp
        · exact hp
        · split at hp <;> exact hp
      | _ => exact hp.elim

theorem pmatch {A : Prop} {B : Code → Prop} : ∀ j : Option Code, ((j = none → A) ∧ ∀ c, j = some c → B c) → (match j with | none => A | some c => B c)
  | none, h => h.1 rfl
  | some c, h => h.2 c rfl

theorem xRange_ok {r : Rec} (hc : SCall P r) (hsr : SynRec r) : SRange P r := by
  intro f ps asg body tm s hn
  refine ⟨xRange_syn hsr _ _ _ _ _ _, fun r0 σ D a w h0 hw ht hdk hm hh0 hro hoff => ?_⟩
  have hr0 : r0 = none := Classical.byContradiction fun h => by
    have := hro h
    simp [cCode, flat] at this
  subst hr0
  obtain ⟨g, first, caps, v, s2, t2, p2, a2, b2, st, pend, e0, he, hf1, hf2, hcall, hg, hst, hX, hp⟩ := xRange_inv hn
  have hd : allLt a.tmps.size ps.toList = true ∧ dOk a.tmps.size (cCode P asg) = true ∧ dOk a.tmps.size (cCode P body) = true := by
    simpa [cCode, dOk] using hdk
  refine wpIn_rangeFunc fun fn _ => ?_
  have hx := ev (a := a) ht f
  rw [he] at hx
  generalize hv : a.eval f = q at hx
  cases hx with
  | fn _ _ _ fs cs h1 h2 =>
  have hsyn1 := new_syn s (.loop tm ps.toList (cCode P asg) (cCode P body) 0 none)
  have hsync := (hc _ _ _ _ _ hcall).1
  have hsynu := upd_syn s2 s.nx .non (by rw [hg]; simp)
  have hsynr := hsync.trans hsynu
  have hoffX : Off D s.nx (s2.upd s.nx .non).nx := hoff _ _ _ hX
  have hsz : (w.heap.push (Obj.deferred (some []))).size = w.heap.size + 1 := by simp
  -- the world that is entered
  have hst0 := Stp.extra (P := P) (.deferred (some [])) hw
  have hw0 := hst0.rw'.congrD fun _ => Up.self
  have hoff1 : Off D s.nx (Nat.succ s.nx) := hoffX.left hsynr.nx
  obtain ⟨L, hL⟩ : ∃ L : Loop, L = { state := .ready, pending := none, fn := fn, tmps := a.tmps, params := ps, assign := asg, body := body, defers := w.heap.size } := ⟨_, rfl⟩
  have hLt : L.tmps = a.tmps := by rw [hL]
  have hLs : L.state = .ready := by rw [hL]
  have hLp : L.pending = none := by rw [hL]
  have hst1 : Stp P σ D s { w with heap := w.heap.push (.deferred (some [])) } (upF σ s.nx ⟨w.heap.size + 1, 0, 0⟩) (newS s (.loop tm ps.toList (cCode P asg) (cCode P body) 0 none)) { w with heap := (w.heap.push (.deferred (some []))).push (.loop L) } := by
    refine Stp.new hw0 hoff1 (by simp) ?_
    have hn : ¬ D s.nx := fun h => by rcases hoff1 _ h with h | h <;> omega
    refine ⟨L, ?_, by rw [hL], by rw [hL], by rw [hL], by rw [hLt]; exact ht.mono (upF_ext hn) fun _ h => .inl h, ?_, by rw [hLt]; exact ⟨hd.2.1, hd.2.2, hf1, hf2⟩, by rw [hLs]; trivial, by rw [hLp]; trivial⟩
    · show ((w.heap.push (Obj.deferred (some []))).push _)[w.heap.size + 1]? = _
      rw [Array.getElem?_push, if_pos hsz.symm]
    · have : ∀ {n : Nat} {l : List Nat}, allLt n l = true → ∀ p ∈ l, p < n := by
        intro n l
        induction l with
        | nil => simp
        | cons y l ih =>
          intro h p hp
          simp only [allLt, Bool.and_eq_true, Nat.blt_eq] at h
          rcases List.mem_cons.1 hp with rfl | hp
          · exact h.1
          · exact ih h.2 p hp
      rw [hLt]; exact this hd.1
  have hst01 := Stp.trans' (Syn.refl s) hsyn1 hw hst0 (by
    have e : Up D s.nx s.nx = D := funext fun _ => propext Up.self
    rw [e]; exact hst1)
  have hn : ¬ D s.nx := fun h => by rcases hoff1 _ h with h | h <;> omega
  have hσn : (upF σ s.nx ⟨w.heap.size + 1, 0, 0⟩ s.nx) = ⟨w.heap.size + 1, 0, 0⟩ := by unfold upF; rw [if_pos rfl]
  have hDn : Up D s.nx (Nat.succ s.nx) s.nx := .inr ⟨Nat.le_refl _, Nat.lt_succ_self _⟩
  have hargs : Rs (upF σ s.nx ⟨w.heap.size + 1, 0, 0⟩) (Up D s.nx (Nat.succ s.nx)) (first ++ [.yld s.nx] ++ caps) (fs ++ [.func (.yield (w.heap.size + 1)) #[] #[]] ++ cs) := by
    refine ((h1.mono (upF_ext hn) fun _ h => .inl h).append (.cons _ _ _ _ ?_ .nil)).append (h2.mono (upF_ext hn) fun _ h => .inl h)
    have := R.yld (σ := upF σ s.nx ⟨w.heap.size + 1, 0, 0⟩) (D := Up D s.nx (Nat.succ s.nx)) s.nx hDn
    rw [hσn] at this; exact this
  have hoff2 : Off (Up D s.nx (Nat.succ s.nx)) (newS s (.loop tm ps.toList (cCode P asg) (cCode P body) 0 none)).nx s2.nx := by
    have := hoffX.right hsyn1.nx
    rw [upd_nx] at this; exact this
  have hcalled := (hc _ _ _ _ _ hcall).2 _ _ _ _ hst01.rw' hargs hoff2
  rcases hcalled with ⟨y, w', _, hny, _⟩ | ⟨hent, hci⟩
  · exact absurd (by simp) (hny (w.heap.size + 1) #[] #[])
  · have hrun := enter_run (P := P) (w := w) fn a.tmps ps asg body
    rw [← hL] at hrun
    refine ⟨w.heap.size + 1, [{ target := .collected w.heap.size, args := #[] }], _, { target := .fn (.func g) ⟨cs⟩, args := ⟨fs⟩ ++ #[.func (.yield (w.heap.size + 1)) #[] #[]] }, { w with heap := (w.heap.push (.deferred (some []))).push (.loop L) }, g, _, _,
      hrun, ?_, fun _ _ => trivial, ?_, fun h => by simp [Fn] at h, hci.mono ?_⟩
    · simp only [resolve, rangeCall, hv, Deferred.ofValue, Sem.run_pure]
      simp [Act.eval]
    · have : (⟨fs⟩ : Array Value) ++ #[.func (.yield (w.heap.size + 1)) #[] #[]] ++ ⟨cs⟩ = ⟨fs ++ [.func (.yield (w.heap.size + 1)) #[] #[]] ++ cs⟩ := by apply Array.ext'; simp
      simp only [invoke, this]
      exact hent
    · rintro e w2 ⟨y, rfl, σ2, hst2, hy⟩
      have hst012 := Stp.trans hsyn1 hsync hw hst01 hst2
      obtain ⟨L2, k1, k2, k3, k4, k5, k6, k7, k8, k9⟩ := hst012.rw'.loop hg
      have hbusy : L2.state ≠ .busy := fun e => by
        rw [e] at k8
        cases st with
        | zero => exact k8
        | succ st => cases st with
          | zero => exact hst rfl
          | succ st => cases st <;> exact k8
      have hσ2 : (σ2 s.nx).blk = w.heap.size + 1 := by rw [hst2.ext _ hDn, hσn]
      have hend := endLoop_run (P := P) k1 hbusy
      have hstl := Stp.setLoop (L' := { L2 with state := .exhausted }) (ob := .non) hst012.rw' (by rw [hg]; simp) k1 trivial
      have hfin := Stp.trans (hsyn1.trans hsync) hsynu hw hst012 hstl
      rw [hσ2] at hend
      rw [hσ2] at hfin
      refine ⟨L2.pending, _, hend, ?_⟩
      refine pmatch _ (pend_wp hp k9 ?_)
      refine ⟨tm, _, σ2, hX, hfin, ht.mono hfin.ext fun _ h => .inl h, rfl, ?_⟩
      -- the marks
      obtain ⟨rs, m1, m2, m3⟩ := hm
      refine ⟨w.heap.size :: rs, by simp [m1], List.nodup_cons.2 ⟨fun h => ?_, m2⟩, fun q hq => ?_⟩
      · have := (Array.getElem?_eq_some_iff.1 (m3 _ h).2).1; omega
      · have key : ∀ q, h0 ≤ q → (w.heap.push (Obj.deferred (some [])))[q]? = some (.deferred (some [])) → h0 ≤ q ∧ (w2.heap.setIfInBounds (w.heap.size + 1) (.loop { L2 with state := .exhausted }))[q]? = some (.deferred (some [])) := by
          intro q hq1 hq2
          refine ⟨hq1, ?_⟩
          have hq3 := (Array.getElem?_eq_some_iff.1 hq2).1
          rw [Array.getElem?_setIfInBounds, if_neg (by omega)]
          have e1 := hst1.deferred hw0 (r := q) (x := some []) hq2
          exact hst2.deferred hst01.rw' e1
        rcases List.mem_cons.1 hq with rfl | hq
        · exact key _ hh0 (by rw [Array.getElem?_push, if_pos rfl])
        · have := m3 q hq
          refine key q this.1 ?_
          have hlt := (Array.getElem?_eq_some_iff.1 this.2).1
          rw [Array.getElem?_push, if_neg (by omega)]; exact this.2
end
end Go.VM

namespace Go.VM
open Go

section
variable {s s' : S} {tm tm2 : T AV} {v : AV} {q : List (Nat × Nat)}

/-! the temporaries that an operation names are all that it sees of them -/

theorem evalO_congr {x : Opd} (h : ∀ t ∈ oT x, gt tm2 t = gt tm t) : evalO tm2 x = evalO tm x := by
  cases x with
  | t n => exact h n (by simp [oT])
  | c v => rfl
theorem evs_nil : evs tm [] = [] := rfl
theorem evs_cons' (x : Opd) (l : List Opd) : evs tm (x :: l) = evalO tm x :: evs tm l := rfl
theorem evs_congr : ∀ {l : List Opd}, (∀ t ∈ oTs l, gt tm2 t = gt tm t) → evs tm2 l = evs tm l
  | [], _ => rfl
  | x :: l, h => by
    rw [evs_cons', evs_cons', evalO_congr fun t ht => h t (by simp [oTs, ht]), evs_congr fun t ht => h t (by simp [oTs, ht])]
theorem oMap_congr {x : Option Opd} (h : ∀ t ∈ oTo x, gt tm2 t = gt tm t) : x.map (evalO tm2) = x.map (evalO tm) := by
  cases x with
  | none => rfl
  | some x => simp only [Option.map_some]; rw [evalO_congr h]
theorem fillP_congr {tot : Nat} : ∀ {ps : List (Nat × Nat × Opd)} {c : T AV}, (∀ t ∈ oTs (ps.map fun p => p.2.2), gt tm2 t = gt tm t) → fillP tm2 tot ps c = fillP tm tot ps c
  | [], c, _ => rfl
  | (off, n, x) :: l, c, h => by
    have e : evalO tm2 x = evalO tm x := evalO_congr fun t ht => h t (by simp [oTs, ht])
    have ih := fun c => fillP_congr (tot := tot) (ps := l) (c := c) fun t ht => h t (by simp only [List.map_cons, oTs, List.mem_append]; exact .inr ht)
    simp only [fillP, e, ih]
theorem fillS_congr {esz tot : Nat} : ∀ {ps : List (Nat × Opd)} {c : T AV}, (∀ t ∈ oTs (ps.map fun p => p.2), gt tm2 t = gt tm t) → fillS tm2 esz tot ps c = fillS tm esz tot ps c
  | [], c, _ => rfl
  | (j, x) :: l, c, h => by
    have e : evalO tm2 x = evalO tm x := evalO_congr fun t ht => h t (by simp [oTs, ht])
    have ih := fun c => fillS_congr (esz := esz) (tot := tot) (ps := l) (c := c) fun t ht => h t (by simp only [List.map_cons, oTs, List.mem_append]; exact .inr ht)
    simp only [fillS, e, ih]

theorem touches_congr {op : AOp} (h : ∀ t ∈ opT op, gt tm2 t = gt tm t) : touches tm2 op = touches tm op := by
  cases op <;> simp only [opT, List.mem_append] at h <;> simp only [touches]
  case load => rw [evalO_congr h]
  case cvBS => rw [evalO_congr h]
  case cvLL => rw [evalO_congr h]
  case store => rw [evalO_congr fun t ht => h t (.inl ht)]
  case lkp => rw [evalO_congr fun t ht => h t (.inl ht)]
  case mupd => rw [evalO_congr fun t ht => h t (.inl ht)]
  case mdel => rw [evalO_congr fun t ht => h t (.inl ht)]
  case app => rw [evalO_congr fun t ht => h t (.inl ht), evalO_congr fun t ht => h t (.inr ht)]
  case cpy => rw [evalO_congr fun t ht => h t (.inl ht), evalO_congr fun t ht => h t (.inr ht)]
  case len k x => cases k <;> simp only [touches] <;> rw [evalO_congr h]

theorem runOp_congr {op : AOp} (h : ∀ t ∈ opT op, gt tm2 t = gt tm t) (s : S) : runOp op tm2 s = runOp op tm s := by
  cases op <;> simp only [opT, List.mem_append] at h <;> simp only [runOp]
  case mov => simp only [rMov, evalO_congr h]
  case pick => simp only [rPick, evalO_congr fun t ht => h t (.inl ht), evalO_congr fun t ht => h t (.inr (.inl ht)), evalO_congr fun t ht => h t (.inr (.inr ht))]
  case alloc => rfl
  case box => simp only [rBox, evalO_congr h]
  case build => simp only [rBuild, fillP_congr h]
  case bsl => simp only [rBsl, fillS_congr h]
  case load => simp only [rLoad, evalO_congr h]
  case store => simp only [rStore, evalO_congr fun t ht => h t (.inl ht), evalO_congr fun t ht => h t (.inr ht)]
  case nilck => simp only [rNilck, evalO_congr h]
  case bin => simp only [rBin, evalO_congr fun t ht => h t (.inl ht), evalO_congr fun t ht => h t (.inr ht)]
  case eq => simp only [rEq, evalO_congr fun t ht => h t (.inl ht), evalO_congr fun t ht => h t (.inr ht)]
  case un => simp only [rUn, evalO_congr h]
  case cvI => simp only [rCvI, evalO_congr h]
  case cvSB => simp only [rCvSB, evalO_congr h]
  case cvBS => simp only [rCvBS, evalO_congr h]
  case cvSS => simp only [rCvSS, evalO_congr h]
  case cvLL => simp only [rCvLL, evalO_congr h]
  case s2ap => simp only [rS2ap, evalO_congr h]
  case mkI => simp only [rMkI, evalO_congr h]
  case mkF => simp only [rMkF, evs_congr fun t ht => h t (.inl ht), evs_congr fun t ht => h t (.inr ht)]
  case mkM => rfl
  case mkS => simp only [rMkS, evalO_congr fun t ht => h t (.inl ht), evalO_congr fun t ht => h t (.inr ht)]
  case slc k x lo hi mx =>
    simp only [rSlc]
    rw [evalO_congr fun t ht => h t (.inl ht), oMap_congr fun t ht => h t (.inr (.inl ht)), oMap_congr fun t ht => h t (.inr (.inr (.inl ht))), oMap_congr fun t ht => h t (.inr (.inr (.inr ht)))]
  case fadr => simp only [rFadr, evalO_congr h]
  case fld => simp only [rFld, evalO_congr h]
  case iadr => simp only [rIadr, evalO_congr fun t ht => h t (.inl ht), evalO_congr fun t ht => h t (.inr ht)]
  case idx => simp only [rIdx, evalO_congr fun t ht => h t (.inl ht), evalO_congr fun t ht => h t (.inr ht)]
  case lkp => simp only [rLkp, evalO_congr fun t ht => h t (.inl ht), evalO_congr fun t ht => h t (.inr ht)]
  case mupd => simp only [rMupd, evalO_congr fun t ht => h t (.inl ht), evalO_congr fun t ht => h t (.inr (.inl ht)), evalO_congr fun t ht => h t (.inr (.inr ht))]
  case mdel => simp only [rMdel, evalO_congr fun t ht => h t (.inl ht), evalO_congr fun t ht => h t (.inr ht)]
  case ment => rfl
  case est => rfl
  case tass => simp only [rTass, evalO_congr h]
  case ext => simp only [rExt, evalO_congr h]
  case len => simp only [rLen, evalO_congr h]
  case app => simp only [rApp, evalO_congr fun t ht => h t (.inl ht), evalO_congr fun t ht => h t (.inr ht)]
  case cpy => simp only [rCpy, evalO_congr fun t ht => h t (.inl ht), evalO_congr fun t ht => h t (.inr ht)]
  case mnx => simp only [rMnx, evs_congr h]
  case call => simp only [rCall, evs_congr h]
  case callv => simp only [rCallv, evalO_congr fun t ht => h t (.inl ht), evs_congr fun t ht => h t (.inr ht)]
  case bad => rfl

theorem wanted_congr {g : Option (Nat × Bool)} (h : ∀ t ∈ gT g, gt tm2 t = gt tm t) : wanted g tm2 = wanted g tm := by
  cases g with
  | none => rfl
  | some p =>
    obtain ⟨t, w⟩ := p
    simp only [wanted, h t (by simp [gT])]

/-! names that an operation does not touch may be hidden -/

def reh (q : List (Nat × Nat)) (s : S) : S := ⟨s.h, s.nx, s.ws, q⟩
def Nx.reh (q : List (Nat × Nat)) : Nx → Nx
  | .no => .no
  | .val v s => .val v (VM.reh q s)
  | .call f a => .call f a
  | .yld l a => .yld l a

theorem get_reh {x : Nat} (h : hidden x q = hidden x s.hid) : (reh q s).get x = s.get x := by
  obtain ⟨hh, nx, ws, hid⟩ := s
  have h' : hidden x q = hidden x hid := h
  unfold reh
  rw [get_mk, get_mk, h']
theorem upd_reh (x : Nat) (o : AObj) : (reh q s).upd x o = reh q (s.upd x o) := by cases s; rfl
theorem newB_reh (o : AObj) (k : Nat → AV) : newB (reh q s) o k = (newB s o k).reh q := by cases s; rfl
theorem valO_reh (x : Option AV) : valO (reh q s) x = (valO s x).reh q := by cases x <;> rfl
theorem loadN_reh {b : Nat} (h : hidden b q = hidden b s.hid) (o n : Nat) : loadN (reh q s) b o n = loadN s b o n := by unfold loadN; rw [get_reh h]
theorem load1_reh {b : Nat} (h : hidden b q = hidden b s.hid) (o : Nat) : load1 (reh q s) b o = load1 s b o := by unfold load1; rw [get_reh h]
theorem storeN_reh {b : Nat} (h : hidden b q = hidden b s.hid) (o : Nat) (vs : List AV) : storeN (reh q s) b o vs = (storeN s b o vs).map (reh q) := by
  unfold storeN; rw [get_reh h]
  repeat' split
  all_goals simp [upd_reh]

/-- the names that a value leads to are seen alike -/
def Alike (q : List (Nat × Nat)) (s : S) (l : List Nat) : Prop := ∀ x ∈ l, hidden x q = hidden x s.hid

theorem firstN_reh {x : AV} (h : Alike q s (blkOf x)) (e n : Nat) : firstN (reh q s) e n x = firstN s e n x := by
  unfold firstN
  cases x <;> simp only
  case sl b o l c => exact loadN_reh (h b (by simp [blkOf])) _ _
  case slo b o l c => exact loadN_reh (h b (by simp [blkOf])) _ _

theorem appNew_reh (e z n : Nat) (l : List AV) : appNew (reh q s) e z n l = (appNew s e z n l).reh q := newB_reh _ _

theorem appV_reh {x y : AV} (hx : Alike q s (blkOf x)) (hy : Alike q s (blkOf y)) (e z bt : Nat) : appV (reh q s) e z bt x y = (appV s e z bt x y).reh q := by
  unfold appV
  cases hl : lenOf y with
  | none => rfl
  | some n =>
    cases n with
    | zero =>
      simp only
      cases x <;> simp only <;> first | rfl | (split <;> rfl)
    | succ n =>
      simp only [firstN_reh hy]
      cases hf : firstN s z (Nat.succ n) y with
      | none => rfl
      | some new =>
        cases x <;> simp only <;> try rfl
        case snil => split <;> first | rfl | exact appNew_reh _ _ _ _
        case sl b o len cap =>
          have hb := hx b (by simp [blkOf])
          split
          · rfl
          · split
            · rw [storeN_reh hb]
              cases storeN s b (Nat.add o (Nat.mul len z)) new <;> rfl
            · rw [loadN_reh hb]
              cases loadN s b o (Nat.mul len z) <;> first | rfl | exact appNew_reh _ _ _ _
        case slo b o len cap =>
          have hb := hx b (by simp [blkOf])
          split
          · rfl
          · rw [loadN_reh hb]
            cases loadN s b o (Nat.mul len z) with
            | none => rfl
            | some old => simp only [upd_reh]; exact appNew_reh _ _ _ _

theorem cpyT_reh {x : AV} {b : Nat} (hb : hidden b q = hidden b s.hid) (hx : Alike q s (blkOf x)) (e o n : Nat) : cpyT (reh q s) e b o n x = (cpyT s e b o n x).reh q := by
  unfold cpyT
  rw [firstN_reh hx]
  cases firstN s e n x with
  | none => rfl
  | some cs =>
    cases n with
    | zero => rfl
    | succ n =>
      simp only [storeN_reh hb]
      cases storeN s b o cs <;> rfl

theorem cpyV_reh {d x : AV} (hd : Alike q s (blkOf d)) (hx : Alike q s (blkOf x)) (e : Nat) : cpyV (reh q s) e d x = (cpyV s e d x).reh q := by
  unfold cpyV
  cases lenOf x with
  | none => rfl
  | some n =>
    cases d <;> simp only <;> try rfl
    case sl b o l c => exact cpyT_reh (hd b (by simp [blkOf])) hx _ _ _
    case slo b o l c => exact cpyT_reh (hd b (by simp [blkOf])) hx _ _ _

theorem lenV_reh {k : LenK} {x : AV} (h : ∀ r, k = .map → x = .map r → hidden r q = hidden r s.hid) : lenV (reh q s) k x = lenV s k x := by
  cases k <;> simp only [lenV]
  case map =>
    cases x <;> simp only
    case map r => rw [get_reh (h r rfl rfl)]

theorem runOp_reh {op : AOp} {l : List Nat} (ht : touches tm op = some l) (h : Alike q s l) : runOp op tm (reh q s) = (runOp op tm s).reh q := by
  cases op <;> simp only [touches] at ht <;> simp only [runOp]
  case call => cases ht
  case callv => cases ht
  case bad => cases ht
  case ment => cases ht
  case est => cases ht
  case mov => rfl
  case alloc => exact newB_reh _ _
  case box => exact newB_reh _ _
  case mkM => exact newB_reh _ _
  case mkI => rfl
  case mkF => rfl
  case bin => exact valO_reh _
  case eq => exact valO_reh _
  case un => exact valO_reh _
  case slc => exact valO_reh _
  case build => simp only [rBuild]; split <;> rfl
  case bsl => simp only [rBsl]; split <;> first | rfl | exact newB_reh _ _
  case pick => simp only [rPick]; repeat' split
               all_goals rfl
  case nilck => simp only [rNilck]; split <;> rfl
  case cvI => simp only [rCvI]; split <;> rfl
  case cvSB => simp only [rCvSB]; split <;> first | rfl | exact newB_reh _ _
  case cvSS => simp only [rCvSS]; split <;> rfl
  case s2ap => simp only [rS2ap]; repeat' split
               all_goals rfl
  case mkS => simp only [rMkS]; repeat' split
              all_goals first | rfl | exact newB_reh _ _
  case fadr => simp only [rFadr]; split <;> rfl
  case fld => simp only [rFld]; split <;> first | rfl | exact valO_reh _
  case iadr => simp only [rIadr]; repeat' split
               all_goals rfl
  case idx => simp only [rIdx]; repeat' split
              all_goals first | rfl | exact valO_reh _
  case tass => simp only [rTass, lkpR]; repeat' split
               all_goals rfl
  case ext => simp only [rExt]; split <;> first | rfl | exact valO_reh _
  case mnx => simp only [rMnx]; split <;> first | rfl | exact valO_reh _
  case load n agg x =>
    simp only [Option.some.injEq] at ht; subst ht
    simp only [rLoad]
    cases he : evalO tm x <;> simp only <;> try rfl
    rename_i b o
    rw [he] at h
    have hb := h b (by simp [blkOf])
    rw [loadN_reh hb, load1_reh hb]
    split
    · split <;> rfl
    · exact valO_reh _
  case store n x y =>
    simp only [Option.some.injEq] at ht; subst ht
    simp only [rStore]
    cases he : evalO tm x <;> simp only <;> try rfl
    rename_i b o
    rw [he] at h
    have hb := h b (by simp [blkOf])
    rw [storeN_reh hb]
    split
    · cases storeN s b o (evalO tm y).cells <;> rfl
    · rfl
  case cvBS x =>
    simp only [Option.some.injEq] at ht; subst ht
    simp only [rCvBS]
    cases he : evalO tm x <;> simp only <;> try rfl
    all_goals
      rename_i b o n c
      rw [he] at h
      rw [loadN_reh (h b (by simp [blkOf]))]
      repeat' split
      all_goals rfl
  case cvLL x =>
    simp only [Option.some.injEq] at ht; subst ht
    simp only [rCvLL]
    cases he : evalO tm x <;> simp only <;> try rfl
    all_goals
      rename_i b o n c
      rw [he] at h
      rw [get_reh (h b (by simp [blkOf]))]
      cases s.get b <;> simp only [upd_reh] <;> rfl
  case lkp kk z x i ok =>
    simp only [Option.some.injEq] at ht; subst ht
    simp only [rLkp, lkpR]
    split
    · rfl
    · cases he : evalO tm x <;> simp only <;> try rfl
      · rename_i r
        rw [he] at h
        rw [get_reh (h r (by simp [blkOf]))]
        cases s.get r <;> simp only <;> try rfl
        repeat' split
        all_goals rfl
      · repeat' split
        all_goals rfl
  case mupd kk m k y =>
    simp only [Option.some.injEq] at ht; subst ht
    simp only [rMupd]
    cases he : evalO tm m <;> simp only <;> try rfl
    rename_i r
    rw [he] at h
    rw [get_reh (h r (by simp [blkOf]))]
    cases s.get r <;> simp only [upd_reh] <;> try rfl
    repeat' split
    all_goals rfl
  case mdel kk m k =>
    simp only [Option.some.injEq] at ht; subst ht
    simp only [rMdel]
    cases he : evalO tm m <;> simp only <;> try rfl
    rename_i r
    rw [he] at h
    rw [get_reh (h r (by simp [blkOf]))]
    cases s.get r <;> simp only [upd_reh] <;> try rfl
    repeat' split
    all_goals rfl
  case len k x =>
    simp only [rLen]
    rw [lenV_reh]
    · split <;> rfl
    · intro r hk hx
      subst hk
      simp only [touches, Option.some.injEq] at ht
      subst ht
      exact h r (by rw [hx]; simp [blkOf])
  case app e z bt x y =>
    simp only [Option.some.injEq] at ht; subst ht
    exact appV_reh (fun b hb => h b (by simp [hb])) (fun b hb => h b (by simp [hb])) _ _ _
  case cpy z x y =>
    simp only [Option.some.injEq] at ht; subst ht
    exact cpyV_reh (fun b hb => h b (by simp [hb])) (fun b hb => h b (by simp [hb])) _

/-! what an operation that is no call writes, it touches -/

theorem storeN_ws {b o : Nat} {vs : List AV} (h : storeN s b o vs = some s') {x : Nat} (hx : x ∈ s'.ws) : x ∈ s.ws ∨ x = b := by
  unfold storeN at h
  repeat' split at h
  all_goals first | (cases h; done) | skip
  simp only [Option.some.injEq] at h
  subst h
  rw [upd_ws] at hx
  exact hx.symm
theorem newB_ws {o : AObj} {k : Nat → AV} (h : newB s o k = .val v s') {x : Nat} (hx : x ∈ s'.ws) : x ∈ s.ws := by
  rw [newB_eq] at h; injection h with _ h; subst h; exact hx
theorem appV_ws {e z bt : Nat} {x y : AV} (h : appV s e z bt x y = .val v s') {k : Nat} (hk : k ∈ s'.ws) : k ∈ s.ws ∨ k ∈ blkOf x := by
  unfold appV at h
  repeat' split at h
  all_goals first
    | (cases h; done)
    | (injection h with _ h; subst h; exact .inl hk)
    | exact .inl (newB_ws h hk)
    | (rename_i hs; injection h with _ h; subst h; rcases storeN_ws hs hk with h | rfl
       · exact .inl h
       · exact .inr (by simp [blkOf]))
    | (have := newB_ws h hk; rw [upd_ws] at this; rcases this with rfl | h
       · exact .inr (by simp [blkOf])
       · exact .inl h)
theorem cpyV_ws {e : Nat} {x y : AV} (h : cpyV s e x y = .val v s') {k : Nat} (hk : k ∈ s'.ws) : k ∈ s.ws ∨ k ∈ blkOf x := by
  unfold cpyV cpyT at h
  repeat' split at h
  all_goals first
    | (cases h; done)
    | (injection h with _ h; subst h; exact .inl hk)
    | (rename_i hs; injection h with _ h; subst h; rcases storeN_ws hs hk with h | rfl
       · exact .inl h
       · exact .inr (by simp [blkOf]))

theorem blk_mem {x : AV} {b : Nat} (h : (∃ o, x = .ptr b o) ∨ (∃ o n c, x = .sl b o n c) ∨ (∃ o n c, x = .slo b o n c) ∨ x = .map b) : b ∈ blkOf x := by
  rcases h with ⟨_, rfl⟩ | ⟨_, _, _, rfl⟩ | ⟨_, _, _, rfl⟩ | rfl <;> simp [blkOf]

theorem runOp_ws {op : AOp} (h : runOp op tm s = .val v s') {l : List Nat} (ht : touches tm op = some l) {k : Nat} (hk : k ∈ s'.ws) : k ∈ s.ws ∨ k ∈ l := by
  cases op <;> simp only [touches] at ht <;> simp only [runOp] at h
  case mov => injection h with _ h; subst h; exact .inl hk
  case app =>
    simp only [Option.some.injEq] at ht; subst ht
    exact (appV_ws h hk).imp id fun h => by simp [h]
  case cpy =>
    simp only [Option.some.injEq] at ht; subst ht
    exact (cpyV_ws h hk).imp id fun h => by simp [h]
  case alloc => exact .inl (newB_ws h hk)
  case box => exact .inl (newB_ws h hk)
  case mkM => exact .inl (newB_ws h hk)
  case bin => obtain ⟨rfl, _⟩ := valO_syn h; exact .inl hk
  case un => obtain ⟨rfl, _⟩ := valO_syn h; exact .inl hk
  case eq => obtain ⟨rfl, _⟩ := valO_syn h; exact .inl hk
  case slc => obtain ⟨rfl, _⟩ := valO_syn h; exact .inl hk
  all_goals
    try simp only [Option.some.injEq] at ht
    simp only [rPick, rBuild, rBsl, rLoad, rStore, rNilck, rCvI, rCvSB, rCvBS, rCvSS, rCvLL, rS2ap, rMkI, rMkF, rMkS, rFadr, rFld, rIadr, rIdx, rLkp, rMupd, rMdel, rTass, rExt, rLen, rMnx, rCall, rCallv, rNo, lkpR] at h
  all_goals
    repeat' split at h
  all_goals first
    | (cases h; done)
    | (injection h with _ h; subst h; exact .inl hk)
    | (obtain ⟨rfl, _⟩ := valO_syn h; exact .inl hk)
    | exact .inl (newB_ws h hk)
    | skip
  all_goals
    subst ht
  all_goals first
    | (rename_i hs; injection h with _ h; subst h; rcases storeN_ws hs hk with h | rfl
       · exact .inl h
       · exact .inr (blk_mem (.inl ⟨_, by assumption⟩)))
    | (injection h with _ h; subst h; rw [upd_ws] at hk; rcases hk with rfl | h
       · exact .inr (blk_mem (by first | exact .inl ⟨_, by assumption⟩ | exact .inr (.inl ⟨_, _, _, by assumption⟩) | exact .inr (.inr (.inl ⟨_, _, _, by assumption⟩)) | exact .inr (.inr (.inr (by assumption)))))
       · exact .inl h)
end
end Go.VM

