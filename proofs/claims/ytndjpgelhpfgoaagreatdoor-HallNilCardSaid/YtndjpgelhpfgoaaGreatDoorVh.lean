/-
  Part of the proof by an abstract machine (DrawA DrawB DrawC DrawD DrawE DrawF Fin): what each theorem says stands at it; it asks what its own hypotheses say.
-/
import Derived.Test.YtndjpgelhpfgoaaGreatDoorVg
import Derived.OrdersIn
namespace Go.VM
open Go

/-! which operations come earlier, whatever the order -/

theorem testBit_one_shl (n k : Nat) : Nat.testBit (1 <<< n) k = true → k = n := by
  rw [Nat.testBit_shiftLeft]
  simp only [Bool.and_eq_true, decide_eq_true_eq, ge_iff_le]
  rintro ⟨h1, h2⟩
  have := Nat.testBit_one_eq_true_iff_self_eq_zero.1 h2
  omega

theorem edgeM_bit (acc : List Nat) (j k : Nat) : ∀ (es : List Edge) (s : Nat), Nat.testBit (edgeM acc j es s) k = true →
    Nat.testBit s k = true ∨ ∃ e ∈ es, Region.binds .any e = true ∧ e.on < j ∧ (k = e.on ∨ Nat.testBit (acc.getD (j - 1 - e.on) 0) k = true)
  | [], s, h => .inl h
  | e :: es, s, h => by
    simp only [edgeM] at h
    split at h
    · rename_i hb
      rw [Bool.and_eq_true, Nat.blt_eq] at hb
      rcases edgeM_bit acc j k es _ h with h | ⟨e', h1, h2⟩
      · have e1 : ∀ a b : Nat, Nat.lor a b = a ||| b := fun _ _ => rfl
        have e2 : ∀ a b : Nat, Nat.shiftLeft a b = a <<< b := fun _ _ => rfl
        rw [e1, e1, e2, Nat.testBit_or, Nat.testBit_or, Bool.or_eq_true, Bool.or_eq_true] at h
        rcases h with (h | h) | h
        · exact .inl h
        · exact .inr ⟨e, by simp, hb.1, hb.2, .inl (testBit_one_shl _ _ h)⟩
        · exact .inr ⟨e, by simp, hb.1, hb.2, .inr h⟩
      · exact .inr ⟨e', by simp [h1], h2⟩
    · rcases edgeM_bit acc j k es _ h with h | ⟨e', h1, h2⟩
      · exact .inl h
      · exact .inr ⟨e', by simp [h1], h2⟩

theorem befL_cons (o : Oper) (l : List Oper) (j : Nat) (acc : List Nat) : befL (o :: l) j acc = edgeM acc j o.after.toList 0 :: befL l (j + 1) (edgeM acc j o.after.toList 0 :: acc) := by
  rw [befL]
  split <;> rename_i h <;> rw [h]

theorem befL_bit : ∀ (l : List Oper) (j : Nat) (acc : List Nat), acc.length = j → ∀ i o, l[i]? = some o → ∀ k, Nat.testBit ((acc.reverse ++ befL l j acc).getD (j + i) 0) k = true →
    ∃ e ∈ o.after.toList, Region.binds .any e = true ∧ e.on < j + i ∧ (k = e.on ∨ Nat.testBit ((acc.reverse ++ befL l j acc).getD e.on 0) k = true)
  | [], j, acc, _, i, o, ho, k, _ => by simp at ho
  | o' :: l, j, acc, hacc, i, o, ho, k, h => by
    rw [befL_cons] at h ⊢
    cases i with
    | zero =>
      simp only [List.getElem?_cons_zero, Option.some.injEq] at ho
      subst ho
      have e1 : (acc.reverse ++ edgeM acc j o'.after.toList 0 :: befL l (j + 1) (edgeM acc j o'.after.toList 0 :: acc)).getD (j + 0) 0 = edgeM acc j o'.after.toList 0 := by
        rw [List.getD_eq_getElem?_getD, List.getElem?_append_right (by simp; omega)]
        simp [hacc]
      rw [e1] at h
      rcases edgeM_bit acc j k _ _ h with h | ⟨e, h1, h2, h3, h4⟩
      · simp at h
      · refine ⟨e, h1, h2, by omega, h4.imp id fun h => ?_⟩
        have e2 : (acc.reverse ++ edgeM acc j o'.after.toList 0 :: befL l (j + 1) (edgeM acc j o'.after.toList 0 :: acc)).getD e.on 0 = acc.getD (j - 1 - e.on) 0 := by
          rw [List.getD_eq_getElem?_getD, List.getElem?_append_left (by simp; omega), List.getElem?_reverse (by omega), List.getD_eq_getElem?_getD, hacc]
        rw [e2]; exact h
    | succ i =>
      simp only [List.getElem?_cons_succ] at ho
      have ih := befL_bit l (j + 1) (edgeM acc j o'.after.toList 0 :: acc) (by simp [hacc]) i o ho k
      have e3 : (edgeM acc j o'.after.toList 0 :: acc).reverse ++ befL l (j + 1) (edgeM acc j o'.after.toList 0 :: acc) = acc.reverse ++ edgeM acc j o'.after.toList 0 :: befL l (j + 1) (edgeM acc j o'.after.toList 0 :: acc) := by simp
      rw [e3] at ih
      have e4 : j + (i + 1) = j + 1 + i := by omega
      rw [e4] at h ⊢
      exact ih h

/-- k comes ahead of i, whatever the order -/
def Pre (ops : Array Oper) (i k : Nat) : Prop := Nat.testBit ((befA ops).getD i 0) k = true

theorem pre_edge {ops : Array Oper} {i k : Nat} {o : Oper} (ho : ops[i]? = some o) (h : Pre ops i k) :
    ∃ e ∈ o.after, Region.binds .any e = true ∧ e.on < i ∧ (k = e.on ∨ Pre ops e.on k) := by
  have hg : ∀ i, (befA ops).getD i 0 = (befL ops.toList 0 []).getD i 0 := fun i => by
    rw [Array.getD_eq_getD_getElem?, List.getD_eq_getElem?_getD]; simp [befA]
  unfold Pre at h
  rw [hg] at h
  have := befL_bit ops.toList 0 [] rfl i o (by simpa using ho) k (by simpa using h)
  obtain ⟨e, h1, h2, h3, h4⟩ := this
  refine ⟨e, by simpa using h1, h2, by omega, h4.imp id fun h => ?_⟩
  unfold Pre
  rw [hg]; simpa using h

theorem pre_lt {ops : Array Oper} : ∀ (i k : Nat), i < ops.size → Pre ops i k → k < i := by
  intro i
  induction i using Nat.strongRecOn with
  | _ i ih =>
    intro k hi h
    obtain ⟨e, _, _, h1, h2⟩ := pre_edge (Array.getElem?_eq_getElem hi) h
    rcases h2 with rfl | h2
    · exact h1
    · have := ih e.on h1 k (by omega) h2; omega

/-- what comes ahead of what is there, is there -/
def Down (ops : Array Oper) (S : Nat → Prop) : Prop := ∀ i, i < ops.size → S i → ∀ k, Pre ops i k → S k

theorem down_ready {ops : Array Oper} {S : Nat → Prop} {j : Nat} {o : Oper} (hS : Down ops S) (ho : ops[j]? = some o) (h : ∀ e ∈ o.after, Region.binds .any e = true → S e.on) : ∀ k, Pre ops j k → S k := by
  intro k hk
  obtain ⟨e, h1, h2, h3, h4⟩ := pre_edge ho hk
  have hj := (Array.getElem?_eq_some_iff.1 ho).1
  rcases h4 with rfl | h4
  · exact h _ h1 h2
  · exact hS e.on (by omega) (h _ h1 h2) k h4

def Add (S : Nat → Prop) (j : Nat) : Nat → Prop := fun i => S i ∨ i = j
theorem down_add {ops : Array Oper} {S : Nat → Prop} {j : Nat} (hS : Down ops S) (h : ∀ k, Pre ops j k → S k) : Down ops (Add S j) := by
  intro i hi h1 k hk
  rcases h1 with h1 | rfl
  · exact .inl (hS i hi h1 k hk)
  · exact .inl (h k hk)

theorem cOpr_pred {P : Program} {ops : Array Oper} {b : Array Nat} {i : Nat} {o : Oper} : (cOpr P ops b i o).pred = b.getD i 0 := by
  unfold cOpr
  cases hg : o.guard with
  | none => rfl
  | some jw =>
    obtain ⟨j, want⟩ := jw
    cases hd : (ops[j]?).bind (·.dst) <;> simp only [hd]

theorem isMem_touches {op : AOp} {tm : T AV} (h : isMem op = false) : touches tm op = some [] := by
  cases op <;> simp only [isMem] at h <;> first | rfl | (cases h; done) | skip
  case len k x => cases k <;> first | rfl | cases h

theorem cOpr_mem {P : Program} {ops : Array Oper} {b : Array Nat} {i : Nat} {o : Oper} {tm : T AV} (h : (cOpr P ops b i o).mem = false) : touches tm (cOpr P ops b i o).op = some [] := by
  unfold cOpr at h ⊢
  cases hg : o.guard with
  | none => rw [hg] at h; exact isMem_touches h
  | some jw =>
    obtain ⟨j, want⟩ := jw
    rw [hg] at h
    cases hd : (ops[j]?).bind (·.dst) with
    | none => simp [hd] at h
    | some t => simp only [hd] at h ⊢; exact isMem_touches h

theorem drawL_get {P : Program} {ops : Array Oper} {i : Nat} {o : Oper} (h : ops[i]? = some o) : (drawL P ops)[i]? = some (cOpr P ops (befA ops) i o) := by
  unfold drawL
  rw [List.getElem?_map, List.getElem?_zipIdx]
  simp [h]

theorem drawL_len {P : Program} {ops : Array Oper} : (drawL P ops).length = ops.size := by simp [drawL]

/-! temporaries -/
theorem noneOf_iff (l m : List Nat) : noneOf l m = true ↔ ∀ x ∈ l, x ∉ m := by
  induction l with
  | nil => simp [noneOf]
  | cons x l ih =>
    simp only [noneOf]
    split
    · rename_i h
      rw [ih]
      simp only [List.all_eq_true, Bool.not_eq_true'] at h
      simp only [List.mem_cons, forall_eq_or_imp]
      constructor
      · refine fun h' => ⟨fun hx => ?_, h'⟩
        have := h x hx; rw [Nat.beq_refl] at this; cases this
      · exact fun h' => h'.2
    · rename_i h
      simp only [Bool.false_eq_true, false_iff]
      intro h'
      have h2 : (m.all fun y => !Nat.beq x y) = true := by
        simp only [List.all_eq_true, Bool.not_eq_true']
        intro y hy
        cases hb : Nat.beq x y with
        | false => rfl
        | true => exact absurd (Nat.eq_of_beq_eq_true hb ▸ hy) (h' x (by simp))
      rw [h2] at h; cases h

theorem apartL_get {a : AOpr} {i : Nat} : ∀ {l : List AOpr}, apartL a i l = true → ∀ b ∈ l, Nat.testBit b.pred i = true ∨ (∀ d, a.dst = some d → d ∉ aT b) ∧ ∀ d, b.dst = some d → d ∉ aT a
  | [], _, b, hb => by simp at hb
  | c :: l, h, b, hb => by
    simp only [apartL] at h
    split at h
    · rename_i hc
      rcases List.mem_cons.1 hb with rfl | hb
      · rw [Bool.or_eq_true, Bool.and_eq_true, noneOf_iff, noneOf_iff] at hc
        refine hc.imp id fun ⟨h1, h2⟩ => ⟨fun d hd => h1 d (by simp [hd, dT]), fun d hd => h2 d (by simp [hd, dT])⟩
      · exact apartL_get h b hb
    · cases h

theorem apartAll_get : ∀ {l : List AOpr} {k : Nat}, apartAll l k = true → ∀ i j a b, i < j → l[i]? = some a → l[j]? = some b →
    Nat.testBit b.pred (k + i) = true ∨ (∀ d, a.dst = some d → d ∉ aT b) ∧ ∀ d, b.dst = some d → d ∉ aT a
  | [], k, _, i, j, a, b, _, ha, _ => by simp at ha
  | c :: l, k, h, i, j, a, b, hij, ha, hb => by
    simp only [apartAll] at h
    split at h
    · rename_i hc
      cases j with
      | zero => omega
      | succ j =>
        simp only [List.getElem?_cons_succ] at hb
        cases i with
        | zero =>
          simp only [List.getElem?_cons_zero, Option.some.injEq] at ha
          subst ha
          exact apartL_get hc b (List.mem_of_getElem? hb)
        | succ i =>
          simp only [List.getElem?_cons_succ] at ha
          have := apartAll_get h i j a b (by omega) ha hb
          have e : Nat.succ k + i = k + (i + 1) := by omega
          rw [e] at this; exact this
    · cases h

/-! which do not disturb each other -/
theorem disj_iff (l m : List Nat) : disj l m = true ↔ ∀ x ∈ l, x ∉ m := by
  induction l with
  | nil => simp [disj]
  | cons x l ih =>
    simp only [disj]
    split
    · rename_i h
      rw [mem_iff] at h
      simp [h]
    · rename_i h
      have : x ∉ m := fun e => by rw [← mem_iff] at e; rw [e] at h; cases h
      rw [ih]; simp [this]

theorem clear_get {d : List Nat} {r : Option (List Nat)} (h : clear d r = true) {x : Nat} (hx : x ∈ d) : ∃ l, r = some l ∧ x ∉ l := by
  cases d with
  | nil => simp at hx
  | cons y d =>
    simp only [clear] at h
    split at h
    · exact ⟨_, rfl, (disj_iff _ _).1 h x hx⟩
    · cases h

/-- two logs -/
def Calm (a b : Log) : Prop := Nat.testBit a.pred b.i = true ∨ Nat.testBit b.pred a.i = true ∨ (clear a.dirty b.rd = true ∧ clear b.dirty a.rd = true)
theorem calm_iff {a b : Log} (h : calm a b = true) : Calm a b := by
  unfold calm at h
  repeat' split at h
  all_goals first
    | (cases h; done)
    | (rename_i h1; exact .inl h1)
    | (rename_i h1; exact .inr (.inl h1))
    | (rename_i h1; exact .inr (.inr ⟨h1, h⟩))

theorem calmAll_get {a : Log} : ∀ {l : List Log}, calmAll a l = true → ∀ b ∈ l, Calm a b
  | [], _, b, hb => by simp at hb
  | c :: l, h, b, hb => by
    simp only [calmAll] at h
    split at h
    · rename_i hc
      rcases List.mem_cons.1 hb with rfl | hb
      · exact calm_iff hc
      · exact calmAll_get h b hb
    · cases h

theorem Calm.symm {a b : Log} (h : Calm a b) : Calm b a := by
  rcases h with h | h | ⟨h1, h2⟩
  · exact .inr (.inl h)
  · exact .inl h
  · exact .inr (.inr ⟨h2, h1⟩)

theorem calmEach_get : ∀ {l : List Log}, calmEach l = true → ∀ a ∈ l, ∀ b ∈ l, a.i ≠ b.i → Calm a b
  | [], _, a, ha, _, _, _ => by simp at ha
  | c :: l, h, a, ha, b, hb, hne => by
    simp only [calmEach] at h
    split at h
    · rename_i hc
      rcases List.mem_cons.1 ha with rfl | ha' <;> rcases List.mem_cons.1 hb with rfl | hb'
      · exact absurd rfl hne
      · exact calmAll_get hc b hb'
      · exact (calmAll_get hc a ha').symm
      · exact calmEach_get h a ha' b hb' hne
    · cases h

theorem hides_bit (pred x : Nat) : ∀ (al : List (Nat × Nat × Nat)), hidden x (hides pred al) = true ↔ ∃ p ∈ al, Nat.testBit pred p.1 = false ∧ p.2.1 ≤ x ∧ x < p.2.2
  | [] => by simp [hides, hidden]
  | (i, lo, hi) :: l => by
    have ih := hides_bit pred x l
    simp only [hides]
    split
    · rename_i h
      rw [ih]; simp [h]
    · rename_i h
      rw [hidden_cons, Bool.or_eq_true, ih]
      have e1 : (Nat.ble lo x && Nat.blt x hi) = true ↔ lo ≤ x ∧ x < hi := by rw [Bool.and_eq_true, Nat.ble_eq, Nat.blt_eq]
      rw [e1]
      simp [h]
end Go.VM

namespace Go.VM
open Go

/-- a run of a region, operation by operation -/
structure Trc where
  TM : Nat → T AV
  H : Nat → T AObj
  NX : Nat → Nat
  WS : Nat → List Nat
  V : Nat → AV
  HS : Nat → List (Nat × Nat)

def Trc.cons (F : Trc) (k : Nat) (tm : T AV) (h : T AObj) (n : Nat) (ws : List Nat) (v : AV) (hs : List (Nat × Nat)) : Trc where
  TM i := if i = k then tm else F.TM i
  H i := if i = k then h else F.H i
  NX i := if i = k then n else F.NX i
  WS i := if i = k then ws else F.WS i
  V i := if i = k then v else F.V i
  HS i := if i = k then hs else F.HS i

structure TrStep (r : Rec) (hid : List (Nat × Nat)) (F : Trc) (i : Nat) (o : AOpr) (wsF : List Nat) (lsF : List Log) (anyF : Bool) : Prop where
  op : Op1 r o (F.TM i) ⟨F.H i, F.NX i, [], F.HS i ++ hid⟩ (F.V i) ⟨F.H (i + 1), F.NX (i + 1), F.WS i, F.HS i ++ hid⟩
  tm : F.TM (i + 1) = putD o.dst (F.TM i) (F.V i)
  ws : ∀ x ∈ F.WS i, x < F.NX i → x ∈ wsF
  any : (∃ x ∈ F.WS i, x < F.NX i) → anyF = true
  log : o.mem = true ∨ (∃ x ∈ F.WS i, x < F.NX i) → (⟨i, o.pred, below (F.NX i) (F.WS i), touches (F.TM i) o.op⟩ : Log) ∈ lsF

theorem TrStep.cons {r : Rec} {hid : List (Nat × Nat)} {F : Trc} {i : Nat} {o : AOpr} {wsF : List Nat} {lsF : List Log} {anyF : Bool} (h : TrStep r hid F i o wsF lsF anyF)
    {k : Nat} {tm : T AV} {hh : T AObj} {n : Nat} {ws : List Nat} {v : AV} {hs : List (Nat × Nat)} (hi : k < i) : TrStep r hid (F.cons k tm hh n ws v hs) i o wsF lsF anyF := by
  obtain ⟨h1, h2, h3, h4, h5⟩ := h
  have e1 : ¬ i = k := by omega
  have e2 : ¬ i + 1 = k := by omega
  constructor <;> simp only [Trc.cons, if_neg e1, if_neg e2] <;> assumption

def TrOk (r : Rec) (hid : List (Nat × Nat)) (l : List AOpr) (k : Nat) (al : List (Nat × Nat × Nat)) (ls : List Log) (any : Bool) (tm : T AV) (h : T AObj) (n0 : Nat) (ws : List Nat) (tm' : T AV) (s' : S) : Prop :=
    ∃ (F : Trc) (lsF : List Log) (anyF : Bool) (wsF : List Nat),
      F.TM k = tm ∧ F.H k = h ∧ F.NX k = n0 ∧ tm' = F.TM (k + l.length) ∧ s' = ⟨F.H (k + l.length), F.NX (k + l.length), wsF, hid⟩ ∧
      (∀ x ∈ ws, x ∈ wsF) ∧ (∀ p ∈ ls, p ∈ lsF) ∧ (any = true → anyF = true) ∧ (anyF = true → calmEach lsF = true) ∧
      ∀ i o, l[i]? = some o → TrStep r hid F (k + i) o wsF lsF anyF ∧
        ∀ x, hidden x (F.HS (k + i)) = true ↔ hidden x (hides o.pred al) = true ∨ ∃ i', i' < i ∧ F.NX (k + i') ≤ x ∧ x < F.NX (k + i' + 1) ∧ Nat.testBit o.pred (k + i') = false

theorem opsD_tr {r : Rec} (hr : SynRec r) {hid : List (Nat × Nat)} : ∀ (l : List AOpr) (k : Nat) (al : List (Nat × Nat × Nat)) (ls : List Log) (any : Bool) (tm : T AV) (h : T AObj) (n0 : Nat) (ws : List Nat) (tm' : T AV) (s' : S),
    opsD r l k al ls any tm ⟨h, n0, ws, hid⟩ = .ok tm' s' → TrOk r hid l k al ls any tm h n0 ws tm' s'
  | [], k, al, ls, any, tm, h, n0, ws, tm', s', hok => by
    have e : opsD r [] k al ls any tm ⟨h, n0, ws, hid⟩ = opsEnd any ls tm ⟨h, n0, ws, hid⟩ := rfl
    rw [e] at hok
    have key : (any = true → calmEach ls = true) ∧ tm' = tm ∧ s' = ⟨h, n0, ws, hid⟩ := by
      unfold opsEnd at hok
      repeat' split at hok
      all_goals first
        | (simp at hok; done)
        | skip
      · simp only [RT.ok.injEq] at hok; exact ⟨fun h => by simp at h, hok.1.symm, hok.2.symm⟩
      · rename_i hc; simp only [RT.ok.injEq] at hok; exact ⟨fun _ => hc, hok.1.symm, hok.2.symm⟩
    obtain ⟨k1, rfl, rfl⟩ := key
    exact ⟨⟨fun _ => tm', fun _ => h, fun _ => n0, fun _ => [], fun _ => .top, fun _ => []⟩, ls, any, ws, rfl, rfl, rfl, rfl, rfl, fun _ h => h, fun _ h => h, id, k1, fun i o ho => by simp at ho⟩
  | o :: l, k, al, ls, any, tm, h, n0, ws, tm', s', hok => by
    rw [opsD_cons] at hok
    split at hok
    · simp at hok
    · rename_i tm1 h1 n1 ws1 hid1 hop
      obtain ⟨v, htm, hop1⟩ := op1_inv hop
      have hsyn := op1_syn hr hop
      have hhid : hid1 = hides o.pred al ++ hid := hsyn.hid
      have hnx : n0 ≤ n1 := hsyn.nx
      -- what follows, whatever is noted down
      have key : ∀ (ls2 : List Log) (any2 : Bool) (ws2 : List Nat), (∀ x ∈ ws, x ∈ ws2) → (∀ p ∈ ls, p ∈ ls2) → (any = true → any2 = true) → (∀ x ∈ ws1, x < n0 → x ∈ ws2) → ((∃ x ∈ ws1, x < n0) → any2 = true) →
          (o.mem = true ∨ (∃ x ∈ ws1, x < n0) → (⟨k, o.pred, below n0 ws1, touches tm o.op⟩ : Log) ∈ ls2) →
          opsD r l (Nat.succ k) (match Nat.beq n0 n1 with | true => al | false => (k, n0, n1) :: al) ls2 any2 tm1 ⟨h1, n1, ws2, hid⟩ = .ok tm' s' → TrOk r hid (o :: l) k al ls any tm h n0 ws tm' s' := by
        intro ls2 any2 ws2 a1 a2 a3 a4 a5 a6 hrest
        obtain ⟨F, lsF, anyF, wsF, b1, b2, b3, b4, b5, b6, b7, b8, b9, b10⟩ := opsD_tr hr l _ _ _ _ _ _ _ _ _ _ hrest
        refine ⟨F.cons k tm h n0 ws1 v (hides o.pred al), lsF, anyF, wsF, ?_⟩
        have ek : ∀ i, k + (i + 1) = Nat.succ k + i := fun i => by omega
        have ne : ∀ i, ¬ Nat.succ k + i = k := fun i => by omega
        have ne1 : ¬ k + 1 = k := by omega
        have n1' : F.NX (k + 1) = n1 := b3
        refine ⟨by simp [Trc.cons], by simp [Trc.cons], by simp [Trc.cons], ?_, ?_, fun x hx => b6 x (a1 x hx), fun p hp => b7 p (a2 p hp), fun h => b8 (a3 h), b9, ?_⟩
        · rw [b4, List.length_cons, ek]; simp only [Trc.cons, if_neg (ne _)]
        · rw [b5, List.length_cons, ek]; simp only [Trc.cons, if_neg (ne _)]
        · intro i o' ho'
          cases i with
          | zero =>
            simp only [List.getElem?_cons_zero, Option.some.injEq] at ho'
            subst ho'
            refine ⟨⟨?_, ?_, ?_, ?_, ?_⟩, ?_⟩
            · simp only [Trc.cons, Nat.add_zero, if_pos, if_neg ne1]
              have e2 : F.H (k + 1) = h1 := b2
              rw [e2, n1']
              rw [hhid] at hop1; exact hop1
            · simp only [Trc.cons, Nat.add_zero, if_pos, if_neg ne1]
              have e2 : F.TM (k + 1) = tm1 := b1
              rw [e2, htm]
            · simp only [Trc.cons, Nat.add_zero, if_pos]
              exact fun x hx hl => b6 x (a4 x hx hl)
            · simp only [Trc.cons, Nat.add_zero, if_pos]
              exact fun hx => b8 (a5 hx)
            · simp only [Trc.cons, Nat.add_zero, if_pos]
              exact fun hx => b7 _ (a6 hx)
            · intro x
              simp only [Trc.cons, Nat.add_zero, if_pos]
              exact ⟨.inl, fun h => h.resolve_right fun ⟨i', h', _⟩ => by omega⟩
          | succ i =>
            simp only [List.getElem?_cons_succ] at ho'
            obtain ⟨c1, c2⟩ := b10 i o' ho'
            rw [ek]
            refine ⟨c1.cons (by omega), fun x => ?_⟩
            have c3 := c2 x
            have e3 : (F.cons k tm h n0 ws1 v (hides o.pred al)).HS (Nat.succ k + i) = F.HS (Nat.succ k + i) := by simp only [Trc.cons, if_neg (ne _)]
            rw [e3, c3]
            have e4 : hidden x (hides o'.pred (match Nat.beq n0 n1 with | true => al | false => (k, n0, n1) :: al)) = true ↔ hidden x (hides o'.pred al) = true ∨ (n0 ≤ x ∧ x < n1 ∧ Nat.testBit o'.pred k = false) := by
              rw [hides_bit, hides_bit]
              split
              · rename_i hb
                have := Nat.eq_of_beq_eq_true hb
                constructor
                · exact .inl
                · rintro (h | ⟨h1, h2, _⟩)
                  · exact h
                  · omega
              · simp only [List.mem_cons, exists_eq_or_imp]
                constructor
                · rintro (⟨h1, h2, h3⟩ | h)
                  · exact .inr ⟨h2, h3, h1⟩
                  · exact .inl h
                · rintro (h | ⟨h1, h2, h3⟩)
                  · exact .inr h
                  · exact .inl ⟨h3, h1, h2⟩
            rw [e4]
            have e5 : ∀ i', (F.cons k tm h n0 ws1 v (hides o.pred al)).NX (Nat.succ k + i') = F.NX (Nat.succ k + i') := fun i' => by simp only [Trc.cons, if_neg (ne _)]
            constructor
            · rintro ((h | ⟨h1, h2, h3⟩) | ⟨i', h1, h2, h3, h4⟩)
              · exact .inl h
              · refine .inr ⟨0, by omega, ?_, ?_, h3⟩
                · simp only [Trc.cons, Nat.add_zero, if_pos]; exact h1
                · simp only [Trc.cons, Nat.add_zero, if_neg ne1, n1']; exact h2
              · refine .inr ⟨i' + 1, by omega, ?_, ?_, by rw [ek]; exact h4⟩
                · rw [ek, e5]; exact h2
                · rw [ek, Nat.add_assoc, e5]; exact h3
            · rintro (h | ⟨i', h1, h2, h3, h4⟩)
              · exact .inl (.inl h)
              · cases i' with
                | zero =>
                  simp only [Trc.cons, Nat.add_zero, if_pos, if_neg ne1, n1'] at h2 h3 h4
                  exact .inl (.inr ⟨h2, h3, h4⟩)
                | succ i' =>
                  rw [ek, e5] at h2
                  rw [ek, Nat.add_assoc, e5] at h3
                  rw [ek] at h4
                  exact .inr ⟨i', by omega, h2, h3, h4⟩
      split at hok
      · rename_i hb
        have hno : ¬ ∃ x ∈ ws1, x < n0 := fun ⟨x, hx, hl⟩ => by
          have := (below_mem n0 x ws1).2 ⟨hx, hl⟩; rw [hb] at this; simp at this
        refine key _ _ _ (fun _ h => h) ?_ (fun h => h) (fun x hx hl => absurd ⟨x, hx, hl⟩ hno) (fun h => absurd h hno) ?_ hok
        · intro p hp; split
          · exact List.mem_cons_of_mem _ hp
          · exact hp
        · rintro (hm | h)
          · rw [hm, hb]; simp
          · exact absurd h hno
      · rename_i x d hb
        refine key _ _ _ (fun y hy => (mem_insAll _ _ _).2 (.inr hy)) (fun p hp => List.mem_cons_of_mem _ hp) (fun _ => rfl) (fun y hy hl => (mem_insAll _ _ _).2 (.inl ?_)) (fun _ => rfl) (fun _ => ?_) hok
        · have := (below_mem n0 y ws1).2 ⟨hy, hl⟩
          rw [hb] at this; exact this
        · rw [hb]; simp
end Go.VM

namespace Go.VM
open Go

theorem Op1.syn' {r : Rec} (hr : SynRec r) {o : AOpr} {tm : T AV} {s s' : S} {v : AV} (h : Op1 r o tm s v s') : Syn s s' := by
  rcases h with ⟨_, _, rfl⟩ | ⟨_, h | ⟨f, args, _, h⟩ | ⟨l, args, _, h⟩⟩
  · exact Syn.refl _
  · exact runOp_syn h
  · exact hr.call _ _ _ _ _ h
  · exact hr.round _ _ _ _ _ h

/-- what is known of a region's run in the text's order -/
structure Cx (P : Program) (r : Rec) (ops : Array Oper) (F : Trc) (hid : List (Nat × Nat)) (wsF : List Nat) (lsF : List Log) (anyF : Bool) : Prop where
  sr : SynRec r
  st : ∀ i o, ops[i]? = some o → TrStep r hid F i (cOpr P ops (befA ops) i o) wsF lsF anyF
  hs : ∀ i o, ops[i]? = some o → ∀ x, hidden x (F.HS i) = true ↔ ∃ i', i' < i ∧ F.NX i' ≤ x ∧ x < F.NX (i' + 1) ∧ ¬ Pre ops i i'
  calm : anyF = true → calmEach lsF = true
  apart : apartAll (drawL P ops) 0 = true

section
variable {P : Program} {r : Rec} {ops : Array Oper} {F : Trc} {hid : List (Nat × Nat)} {wsF : List Nat} {lsF : List Log} {anyF : Bool}

/-- an operation writes an older name -/
def Dirt (F : Trc) (hid : List (Nat × Nat)) (i x : Nat) : Prop := x ∈ F.WS i ∧ x < F.NX i ∧ hidden x (F.HS i ++ hid) = false

theorem Cx.syn (c : Cx P r ops F hid wsF lsF anyF) {i : Nat} (hi : i < ops.size) : Syn ⟨F.H i, F.NX i, [], F.HS i ++ hid⟩ ⟨F.H (i + 1), F.NX (i + 1), F.WS i, F.HS i ++ hid⟩ :=
  (c.st i _ (Array.getElem?_eq_getElem hi)).op.syn' c.sr

theorem Cx.mono (c : Cx P r ops F hid wsF lsF anyF) : ∀ {i j : Nat}, i ≤ j → j ≤ ops.size → F.NX i ≤ F.NX j := by
  intro i j hij
  induction j with
  | zero => intro _; have : i = 0 := by omega
            subst this; exact Nat.le_refl _
  | succ j ih =>
    intro hj
    rcases Nat.lt_or_ge i (j + 1) with h | h
    · exact Nat.le_trans (ih (by omega) (by omega)) (c.syn (i := j) (by omega)).nx
    · have : i = j + 1 := by omega
      subst this; exact Nat.le_refl _

/-- no one writes it: it stays -/
theorem Cx.keep (c : Cx P r ops F hid wsF lsF anyF) {x m : Nat} (hx : x < F.NX m) : ∀ {n : Nat}, m ≤ n → n ≤ ops.size → (∀ i, m ≤ i → i < n → ¬ Dirt F hid i x) → (F.H n).get .non x = (F.H m).get .non x := by
  intro n
  induction n with
  | zero => intro h _ _; have : m = 0 := by omega
            subst this; rfl
  | succ n ih =>
    intro hmn hn hd
    rcases Nat.lt_or_ge m (n + 1) with h | h
    · rw [← ih (by omega) (by omega) fun i h1 h2 => hd i h1 (by omega)]
      have hs := c.syn (i := n) (by omega)
      have hxn : x < F.NX n := Nat.lt_of_lt_of_le hx (c.mono (by omega) (by omega))
      by_cases hm : x ∈ F.WS n
      · cases hh : hidden x (F.HS n ++ hid) with
        | true => exact hs.hidden x hh hxn
        | false => exact absurd ⟨hm, hxn, hh⟩ (hd n (by omega) (by omega))
      · exact hs.keep x hxn hm
    · have : m = n + 1 := by omega
      subst this; rfl

/-- who made a name -/
theorem Cx.maker (c : Cx P r ops F hid wsF lsF anyF) {x : Nat} (h0 : F.NX 0 ≤ x) : ∀ {j : Nat}, j ≤ ops.size → x < F.NX j → ∃ i, i < j ∧ F.NX i ≤ x ∧ x < F.NX (i + 1) := by
  intro j
  induction j with
  | zero => intro _ h; omega
  | succ j ih =>
    intro hj hx
    rcases Nat.lt_or_ge x (F.NX j) with h | h
    · obtain ⟨i, h1, h2⟩ := ih (by omega) h
      exact ⟨i, by omega, h2⟩
    · exact ⟨j, by omega, h, hx⟩

theorem Cx.calmed (c : Cx P r ops F hid wsF lsF anyF) {i j x : Nat} {oi oj : Oper} (hi : ops[i]? = some oi) (hj : ops[j]? = some oj) (hne : i ≠ j) (hd : Dirt F hid i x) :
    Pre ops i j ∨ Pre ops j i ∨ ∃ l, touches (F.TM j) (cOpr P ops (befA ops) j oj).op = some l ∧ x ∉ l := by
  have hex : ∃ x ∈ F.WS i, x < F.NX i := ⟨x, hd.1, hd.2.1⟩
  have hcalm := c.calm ((c.st i oi hi).any hex)
  have hli := (c.st i oi hi).log (.inr hex)
  by_cases hlog : (cOpr P ops (befA ops) j oj).mem = true ∨ ∃ x ∈ F.WS j, x < F.NX j
  · have hlj := (c.st j oj hj).log hlog
    have := calmEach_get hcalm _ hli _ hlj hne
    rcases this with h | h | ⟨h, _⟩
    · rw [cOpr_pred] at h; exact .inl h
    · rw [cOpr_pred] at h; exact .inr (.inl h)
    · obtain ⟨l, h1, h2⟩ := clear_get h ((below_mem _ _ _).2 ⟨hd.1, hd.2.1⟩)
      exact .inr (.inr ⟨l, h1, h2⟩)
  · have hm : (cOpr P ops (befA ops) j oj).mem = false := by
      cases h : (cOpr P ops (befA ops) j oj).mem with
      | false => rfl
      | true => exact absurd (.inl h) hlog
    exact .inr (.inr ⟨[], cOpr_mem hm, by simp⟩)

theorem Cx.touch (c : Cx P r ops F hid wsF lsF anyF) {j x : Nat} {oj : Oper} (hj : ops[j]? = some oj) (hd : Dirt F hid j x) {l : List Nat} (hl : touches (F.TM j) (cOpr P ops (befA ops) j oj).op = some l) : x ∈ l := by
  have hop := (c.st j oj hj).op
  have hx := hd.1
  rcases hop with ⟨_, _, h⟩ | ⟨_, h | ⟨f, args, h, _⟩ | ⟨lb, args, h, _⟩⟩
  · injection h with _ _ h
    rw [h] at hx; simp at hx
  · rcases runOp_ws h hl hx with h | h
    · simp at h
    · exact h
  · have := runOp_call (.inl ⟨_, _, h⟩)
    generalize (cOpr P ops (befA ops) j oj).op = q at *
    cases q <;> simp only [isCallA] at this <;> first | (cases this; done) | (simp [touches] at hl)
  · have := runOp_call (.inr ⟨_, _, h⟩)
    generalize (cOpr P ops (befA ops) j oj).op = q at *
    cases q <;> simp only [isCallA] at this <;> first | (cases this; done) | (simp [touches] at hl)

theorem Cx.both (c : Cx P r ops F hid wsF lsF anyF) {i j x : Nat} {oi oj : Oper} (hi : ops[i]? = some oi) (hj : ops[j]? = some oj) (hne : i ≠ j) (hd : Dirt F hid i x) (hd' : Dirt F hid j x) : Pre ops i j ∨ Pre ops j i := by
  rcases c.calmed hi hj hne hd with h | h | ⟨l, h1, h2⟩
  · exact .inl h
  · exact .inr h
  · exact absurd (c.touch hj hd' h1) h2

theorem Cx.temps (c : Cx P r ops F hid wsF lsF anyF) {i j : Nat} {oi oj : Oper} (hi : ops[i]? = some oi) (hj : ops[j]? = some oj) (hij : i < j) :
    Pre ops j i ∨ (∀ d, oi.dst = some d → d ∉ aT (cOpr P ops (befA ops) j oj)) ∧ ∀ d, oj.dst = some d → d ∉ aT (cOpr P ops (befA ops) i oi) := by
  have := apartAll_get c.apart i j _ _ hij (drawL_get hi) (drawL_get hj)
  rw [cOpr_pred, cOpr_dst, cOpr_dst, Nat.zero_add] at this
  exact this

theorem aT_dst {o : AOpr} {d : Nat} (h : o.dst = some d) : d ∈ aT o := by simp [aT, h, dT]

/-- no one writes a temporary: it stays -/
theorem Cx.tkeep (c : Cx P r ops F hid wsF lsF anyF) {t m : Nat} : ∀ {n : Nat}, m ≤ n → n ≤ ops.size → (∀ i o, m ≤ i → i < n → ops[i]? = some o → o.dst ≠ some t) → gt (F.TM n) t = gt (F.TM m) t := by
  intro n
  induction n with
  | zero => intro h _ _; have : m = 0 := by omega
            subst this; rfl
  | succ n ih =>
    intro hmn hn hd
    rcases Nat.lt_or_ge m (n + 1) with h | h
    · rw [← ih (by omega) (by omega) fun i o h1 h2 => hd i o h1 (by omega)]
      have ho := Array.getElem?_eq_getElem (xs := ops) (i := n) (by omega)
      rw [(c.st n _ ho).tm, cOpr_dst]
      have := hd n _ (by omega) (by omega) ho
      cases hq : (ops[n]'(by omega)).dst with
      | none => rfl
      | some d =>
        simp only [putD]
        rw [gt_st, if_neg]
        intro e; rw [hq, e] at this; exact this rfl
    · have : m = n + 1 := by omega
      subst this; rfl

/-- the names that there are when S has been done -/
def DS (F : Trc) (ops : Array Oper) (D S : Nat → Prop) (x : Nat) : Prop := D x ∨ ∃ k, k < ops.size ∧ S k ∧ F.NX k ≤ x ∧ x < F.NX (k + 1)

structure DI (P : Program) (ops : Array Oper) (F : Trc) (hid : List (Nat × Nat)) (wsF : List Nat) (σ : Nat → Loc) (D : Nat → Prop) (s : S) (w0 : World) (n : Nat) (ds : List Deferred)
    (S : Nat → Prop) (a : Act) (w : World) (σS : Nat → Loc) (g : Nat → AObj) (tmS : T AV) : Prop where
  dom : ∀ x, g x ≠ .non → DS F ops D S x
  obj : ∀ x, g x ≠ .non → RO P σS (DS F ops D S) (g x) (σS x) w
  inj : ∀ x y, g x ≠ .non → g y ≠ .non → (σS x).blk = (σS y).blk → x = y
  ext : Ext D σ σS
  size : w0.heap.size ≤ w.heap.size
  os : w.os = w0.os
  tape : w.tape = w0.tape
  output : w.output = w0.output
  frame : ∀ b, b < w0.heap.size → (∀ x, x ∈ wsF → s.get x ≠ .non → (σ x).blk ≠ b) → w.heap[b]? = w0.heap[b]?
  own : ∀ x, g x ≠ .non → s.get x ≠ .non ∨ (s.nx ≤ x ∧ (w0.heap.size ≤ (σS x).blk ∨ ∃ y, y ∈ wsF ∧ s.get y ≠ .non ∧ (σS x).blk = (σ y).blk))
  vis : ∀ x, g x ≠ .non → hidden x hid = false ∧ (x < F.NX 0 ∨ ∃ k, k < ops.size ∧ S k ∧ F.NX k ≤ x ∧ x < F.NX (k + 1))
  cont : ∀ x, hidden x hid = false → (x < F.NX 0 ∨ ∃ k, k < ops.size ∧ S k ∧ F.NX k ≤ x ∧ x < F.NX (k + 1)) →
    ∃ m, m ≤ ops.size ∧ g x = (F.H m).get .non x ∧ x < F.NX m ∧ (∀ i, i < ops.size → Dirt F hid i x → (S i ↔ i < m))
  tmp : Rt σS (DS F ops D S) tmS a.tmps
  tcont : ∀ t, ∃ m, m ≤ ops.size ∧ gt tmS t = gt (F.TM m) t ∧ ∀ i o, ops[i]? = some o → o.dst = some t → (S i ↔ i < m)
  tsz : a.tmps.size = n
  defers : a.defers = ds
end
end Go.VM

namespace Go.VM
open Go
open Classical in
/-- the names that are not what the text's order makes of them -/
noncomputable def stale (n : Nat) (p : Nat → Prop) : List (Nat × Nat) := ((List.range n).filter fun x => decide (p x)).map fun x => (x, x + 1)

theorem hidden_map {x : Nat} : ∀ (l : List Nat), hidden x (l.map fun x => (x, x + 1)) = true ↔ x ∈ l
  | [] => by simp [hidden]
  | y :: l => by
    rw [List.map_cons, hidden_cons, Bool.or_eq_true, hidden_map l, Bool.and_eq_true, Nat.ble_eq, Nat.blt_eq, List.mem_cons]
    constructor
    · rintro (h | h)
      · exact .inl (by omega)
      · exact .inr h
    · rintro (h | h)
      · exact .inl ⟨by omega, by omega⟩
      · exact .inr h

theorem stale_iff {n : Nat} {p : Nat → Prop} {x : Nat} : hidden x (stale n p) = true ↔ x < n ∧ p x := by
  unfold stale
  rw [hidden_map]; simp

theorem stale_nil {n : Nat} {p : Nat → Prop} (h : ∀ x, x < n → ¬ p x) : stale n p = [] := by
  unfold stale
  rw [List.map_eq_nil_iff, List.filter_eq_nil_iff]
  intro x hx
  simp only [List.mem_range] at hx
  simpa using h x hx

section
variable {P : Program} {r : Rec} {ops : Array Oper} {F : Trc} {hid : List (Nat × Nat)} {wsF : List Nat} {lsF : List Log} {anyF : Bool}
variable {σ : Nat → Loc} {D : Nat → Prop} {s : S} {w0 : World} {n : Nat} {ds : List Deferred} {j : Nat} {S : Nat → Prop} {a : Act} {w : World} {σS : Nat → Loc} {g : Nat → AObj} {tmS : T AV}

/-- the names that an operation sees were made, or are older -/
theorem Cx.sees (c : Cx P r ops F hid wsF lsF anyF) (hpre : ∀ k, Pre ops j k → S k) {o : Oper} (ho : ops[j]? = some o) {x : Nat} (hx : x < F.NX j) (hh : hidden x (F.HS j ++ hid) = false) :
    hidden x hid = false ∧ (x < F.NX 0 ∨ ∃ k, k < ops.size ∧ S k ∧ F.NX k ≤ x ∧ x < F.NX (k + 1)) := by
  rw [hidden_append, Bool.or_eq_false_iff] at hh
  refine ⟨hh.2, ?_⟩
  have hj := (Array.getElem?_eq_some_iff.1 ho).1
  rcases Nat.lt_or_ge x (F.NX 0) with h | h
  · exact .inl h
  · obtain ⟨k, h1, h2, h3⟩ := c.maker h (by omega) hx
    refine .inr ⟨k, by omega, hpre k (Classical.byContradiction fun hp => ?_), h2, h3⟩
    have := (c.hs j o ho x).2 ⟨k, h1, h2, h3, hp⟩
    rw [this] at hh; simp at hh

/-- what an operation may touch is what the text's order makes of it -/
theorem Cx.fresh (c : Cx P r ops F hid wsF lsF anyF) (hI : DI P ops F hid wsF σ D s w0 n ds S a w σS g tmS) (hS : Down ops S) {o : Oper} (ho : ops[j]? = some o) (hj : ¬ S j) (hpre : ∀ k, Pre ops j k → S k)
    {x : Nat} (hx : x < F.NX j) (hh : hidden x (F.HS j ++ hid) = false) (hne : g x ≠ (F.H j).get .non x) : ∃ l, touches (F.TM j) (cOpr P ops (befA ops) j o).op = some l ∧ x ∉ l := by
  have hjN := (Array.getElem?_eq_some_iff.1 ho).1
  obtain ⟨v1, v2⟩ := c.sees hpre ho hx hh
  obtain ⟨m, hm, hg, hxm, hd⟩ := hI.cont x v1 v2
  refine Classical.byContradiction fun hno => hne ?_
  rw [hg]
  rcases Nat.le_total m j with hmj | hmj
  · refine (c.keep hxm hmj (by omega) fun i h1 h2 hdi => ?_).symm
    have hi : ops[i]? = some _ := Array.getElem?_eq_getElem (by omega)
    have hnS : ¬ S i := fun hs => by have := (hd i (by omega) hdi).1 hs; omega
    rcases c.calmed hi ho (by omega) hdi with h | h | h
    · have := pre_lt i j (by omega) h; omega
    · exact hnS (hpre i h)
    · exact hno h
  · refine c.keep hx hmj hm fun i h1 h2 hdi => ?_
    have hi : ops[i]? = some _ := Array.getElem?_eq_getElem (by omega)
    have hSi : S i := (hd i (by omega) hdi).2 h2
    have hij : i ≠ j := fun e => hj (e ▸ hSi)
    rcases c.calmed hi ho hij hdi with h | h | h
    · exact hj (hS i (by omega) hSi j h)
    · have := pre_lt j i hjN h; omega
    · exact hno h

/-- the temporaries that an operation names are what the text's order makes of them -/
theorem Cx.tfresh (c : Cx P r ops F hid wsF lsF anyF) (hI : DI P ops F hid wsF σ D s w0 n ds S a w σS g tmS) (hS : Down ops S) {o : Oper} (ho : ops[j]? = some o) (hj : ¬ S j) (hpre : ∀ k, Pre ops j k → S k)
    {t : Nat} (ht : t ∈ aT (cOpr P ops (befA ops) j o)) : gt tmS t = gt (F.TM j) t := by
  have hjN := (Array.getElem?_eq_some_iff.1 ho).1
  obtain ⟨m, hm, hg, hd⟩ := hI.tcont t
  rw [hg]
  rcases Nat.le_total m j with hmj | hmj
  · refine (c.tkeep hmj (by omega) fun i oi h1 h2 hi e => ?_).symm
    have hnS : ¬ S i := fun hs => by have := (hd i oi hi e).1 hs; omega
    rcases c.temps hi ho (by omega) with h | ⟨h, _⟩
    · exact hnS (hpre i h)
    · exact h t e ht
  · refine c.tkeep hmj hm fun i oi h1 h2 hi e => ?_
    have hSi : S i := (hd i oi hi e).2 h2
    have hij : i ≠ j := fun e => hj (e ▸ hSi)
    have hiN := (Array.getElem?_eq_some_iff.1 hi).1
    rcases c.temps ho hi (by omega) with h | ⟨_, h⟩
    · exact hj (hS i hiN hSi j h)
    · exact h t e ht

theorem touches_call {op : AOp} {tm : T AV} (h : isCallA op = true) : touches tm op = none := by
  cases op <;> simp only [isCallA] at h <;> first | (cases h; done) | rfl

/-- the operation, where the stale names are hidden -/
theorem Cx.op (c : Cx P r ops F hid wsF lsF anyF) (hI : DI P ops F hid wsF σ D s w0 n ds S a w σS g tmS) (hS : Down ops S) {o : Oper} (ho : ops[j]? = some o) (hj : ¬ S j) (hpre : ∀ k, Pre ops j k → S k) :
    Op1 r (cOpr P ops (befA ops) j o) tmS ⟨F.H j, F.NX j, [], stale (F.NX j) (fun x => hidden x (F.HS j ++ hid) = false ∧ g x ≠ (F.H j).get .non x) ++ (F.HS j ++ hid)⟩ (F.V j)
      ⟨F.H (j + 1), F.NX (j + 1), F.WS j, stale (F.NX j) (fun x => hidden x (F.HS j ++ hid) = false ∧ g x ≠ (F.H j).get .non x) ++ (F.HS j ++ hid)⟩ := by
  have hop := (c.st j o ho).op
  have htm : ∀ t ∈ aT (cOpr P ops (befA ops) j o), gt tmS t = gt (F.TM j) t := fun t ht => c.tfresh hI hS ho hj hpre ht
  have hfr : ∀ x, x < F.NX j → hidden x (F.HS j ++ hid) = false → g x ≠ (F.H j).get .non x → ∃ l, touches (F.TM j) (cOpr P ops (befA ops) j o).op = some l ∧ x ∉ l := fun x h1 h2 h3 => c.fresh hI hS ho hj hpre h1 h2 h3
  generalize cOpr P ops (befA ops) j o = oo at *
  have hgu : wanted oo.guard tmS = wanted oo.guard (F.TM j) := wanted_congr fun t ht => htm t (by simp [aT, ht])
  have hrun : ∀ s, runOp oo.op tmS s = runOp oo.op (F.TM j) s := runOp_congr fun t ht => htm t (by simp [aT, ht])
  by_cases hst : ∀ x, x < F.NX j → ¬ (hidden x (F.HS j ++ hid) = false ∧ g x ≠ (F.H j).get .non x)
  · rw [stale_nil hst, List.nil_append]
    unfold Op1 at hop ⊢
    rw [hgu, hrun]
    exact hop
  · obtain ⟨x, hx⟩ := Classical.not_forall.1 hst
    obtain ⟨hx, h⟩ := Classical.not_imp.1 hx
    obtain ⟨h2, h3⟩ := Classical.not_not.1 h
    obtain ⟨l, hl, _⟩ := hfr x hx h2 h3
    have hal : Alike (stale (F.NX j) (fun x => hidden x (F.HS j ++ hid) = false ∧ g x ≠ (F.H j).get .non x) ++ (F.HS j ++ hid)) ⟨F.H j, F.NX j, [], F.HS j ++ hid⟩ l := by
      intro y hy
      rw [hidden_append]
      cases hq : hidden y (stale (F.NX j) (fun x => hidden x (F.HS j ++ hid) = false ∧ g x ≠ (F.H j).get .non x)) with
      | false => simp
      | true =>
        obtain ⟨k1, k2, k3⟩ := stale_iff.1 hq
        obtain ⟨l', hl', hn⟩ := hfr y k1 k2 k3
        rw [hl] at hl'
        simp only [Option.some.injEq] at hl'
        subst hl'
        exact absurd hy hn
    unfold Op1 at hop ⊢
    rw [hgu, hrun]
    rcases hop with ⟨h1, h2, h3⟩ | ⟨h1, h | ⟨f, args, h, _⟩ | ⟨lb, args, h, _⟩⟩
    · refine .inl ⟨h1, h2, ?_⟩
      injection h3 with e1 e2 e3 e4
      rw [e1, e2, e3]
    · refine .inr ⟨h1, .inl ?_⟩
      have := runOp_reh hl hal
      rw [h] at this
      exact this
    · have := runOp_call (.inl ⟨_, _, h⟩)
      rw [touches_call this] at hl; cases hl
    · have := runOp_call (.inr ⟨_, _, h⟩)
      rw [touches_call this] at hl; cases hl

theorem DS_add (hj : j < ops.size) : Up (DS F ops D S) (F.NX j) (F.NX (j + 1)) = DS F ops D (Add S j) := by
  funext x
  apply propext
  constructor
  · rintro ((h | ⟨k, h1, h2, h3⟩) | ⟨h1, h2⟩)
    · exact .inl h
    · exact .inr ⟨k, h1, .inl h2, h3⟩
    · exact .inr ⟨j, hj, .inr rfl, h1, h2⟩
  · rintro (h | ⟨k, h1, h2 | rfl, h3⟩)
    · exact .inl (.inl h)
    · exact .inl (.inr ⟨k, h1, h2, h3⟩)
    · exact .inr h3

end
end Go.VM

namespace Go.VM
open Go
section
variable {P : Program} {r : Rec} {ops : Array Oper} {F : Trc} {hid : List (Nat × Nat)} {wsF : List Nat} {lsF : List Log} {anyF : Bool}
variable {σ : Nat → Loc} {D : Nat → Prop} {s : S} {w0 : World} {n : Nat} {ds : List Deferred} {j : Nat} {S : Nat → Prop} {a : Act} {w : World} {σS : Nat → Loc} {g : Nat → AObj} {tmS : T AV}

/-- the state in which an operation runs -/
noncomputable def sAt (F : Trc) (hid : List (Nat × Nat)) (g : Nat → AObj) (j : Nat) : VM.S :=
  ⟨F.H j, F.NX j, [], stale (F.NX j) (fun x => hidden x (F.HS j ++ hid) = false ∧ g x ≠ (F.H j).get .non x) ++ (F.HS j ++ hid)⟩
noncomputable def sTo (F : Trc) (hid : List (Nat × Nat)) (g : Nat → AObj) (j : Nat) : VM.S :=
  ⟨F.H (j + 1), F.NX (j + 1), F.WS j, stale (F.NX j) (fun x => hidden x (F.HS j ++ hid) = false ∧ g x ≠ (F.H j).get .non x) ++ (F.HS j ++ hid)⟩

/-- it sees a name -/
def Sees (F : Trc) (hid : List (Nat × Nat)) (g : Nat → AObj) (j x : Nat) : Prop :=
  hidden x (stale (F.NX j) (fun x => hidden x (F.HS j ++ hid) = false ∧ g x ≠ (F.H j).get .non x) ++ (F.HS j ++ hid)) = false

theorem sees_iff {x : Nat} : Sees F hid g j x ↔ hidden x (F.HS j ++ hid) = false ∧ (x < F.NX j → g x = (F.H j).get .non x) := by
  unfold Sees
  rw [hidden_append, Bool.or_eq_false_iff]
  constructor
  · rintro ⟨h1, h2⟩
    refine ⟨h2, fun hx => Classical.byContradiction fun hne => ?_⟩
    have := (stale_iff (n := F.NX j) (p := fun x => hidden x (F.HS j ++ hid) = false ∧ g x ≠ (F.H j).get .non x) (x := x)).2 ⟨hx, h2, hne⟩
    rw [this] at h1; cases h1
  · rintro ⟨h1, h2⟩
    refine ⟨?_, h1⟩
    cases hq : hidden x (stale (F.NX j) (fun x => hidden x (F.HS j ++ hid) = false ∧ g x ≠ (F.H j).get .non x)) with
    | false => rfl
    | true =>
      obtain ⟨k1, k2, k3⟩ := stale_iff.1 hq
      exact absurd (h2 k1) k3

theorem sAt_get {x : Nat} (h : (sAt F hid g j).get x ≠ .non) : Sees F hid g j x ∧ x < F.NX j ∧ (sAt F hid g j).get x = g x := by
  unfold sAt at h ⊢
  rw [get_mk] at h ⊢
  by_cases hc : hidden x (stale (F.NX j) (fun x => hidden x (F.HS j ++ hid) = false ∧ g x ≠ (F.H j).get .non x) ++ (F.HS j ++ hid)) = true ∨ F.NX j ≤ x
  · rw [if_pos hc] at h; exact absurd rfl h
  · rw [if_neg hc] at h ⊢
    rw [not_or] at hc
    have hs : Sees F hid g j x := by unfold Sees; simpa using hc.1
    have hx : x < F.NX j := by omega
    exact ⟨hs, hx, ((sees_iff.1 hs).2 hx).symm⟩

theorem sTo_get {x : Nat} (h1 : Sees F hid g j x) (h2 : x < F.NX (j + 1)) : (sTo F hid g j).get x = (F.H (j + 1)).get .non x := by
  unfold sTo Sees at *
  rw [get_mk, if_neg]
  rw [h1]; simp; omega

open Classical in
/-- the contents behind the operation -/
noncomputable def gTo (F : Trc) (hid : List (Nat × Nat)) (g : Nat → AObj) (j x : Nat) : AObj := if Sees F hid g j x ∧ x < F.NX (j + 1) then (sTo F hid g j).get x else g x

theorem off_ds (c : Cx P r ops F hid wsF lsF anyF) (hoff : Off D (F.NX 0) (F.NX ops.size)) (hjN : j < ops.size) (hj : ¬ S j) : Off (DS F ops D S) (F.NX j) (F.NX (j + 1)) := by
  intro x hx
  rcases hx with h | ⟨k, h1, h2, h3, h4⟩
  · rcases hoff x h with h | h
    · exact .inl (Nat.lt_of_lt_of_le h (c.mono (by omega) (by omega)))
    · exact .inr (Nat.le_trans (c.mono (by omega) (by omega)) h)
  · have hne : k ≠ j := fun e => hj (e ▸ h2)
    rcases Nat.lt_or_ge k j with h | h
    · exact .inl (Nat.lt_of_lt_of_le h4 (c.mono (by omega) (by omega)))
    · exact .inr (Nat.le_trans (c.mono (by omega) (by omega)) h3)

theorem DI.rw (c : Cx P r ops F hid wsF lsF anyF) (hI : DI P ops F hid wsF σ D s w0 n ds S a w σS g tmS) : RW P σS (DS F ops D S) (sAt F hid g j) w := by
  refine ⟨fun x hx => ?_, fun x hx => (sAt_get hx).2.1, fun x hx => ?_, fun x y hx hy => ?_⟩
  · obtain ⟨_, _, h⟩ := sAt_get hx; rw [h] at hx; exact hI.dom x hx
  · obtain ⟨_, _, h⟩ := sAt_get hx; rw [h] at hx ⊢; exact hI.obj x hx
  · obtain ⟨_, _, h⟩ := sAt_get hx; obtain ⟨_, _, h'⟩ := sAt_get hy
    rw [h] at hx; rw [h'] at hy; exact hI.inj x y hx hy

theorem step_DI (c : Cx P r ops F hid wsF lsF anyF) (hI : DI P ops F hid wsF σ D s w0 n ds S a w σS g tmS) (hS : Down ops S) {o : Oper} (ho : ops[j]? = some o) (hj : ¬ S j) (hpre : ∀ k, Pre ops j k → S k)
    (hs0 : s.nx = F.NX 0) (hwD : RW P σ D s w0) (hdst : ∀ t, o.dst = some t → t < n) {y : Value} {w' : World} {σ' : Nat → Loc} (hst : Stp P σS (DS F ops D S) (sAt F hid g j) w σ' (sTo F hid g j) w') (hy : R σ' (DS F ops D (Add S j)) (F.V j) y) :
    DI P ops F hid wsF σ D s w0 n ds (Add S j) (a.put o.dst y) w' σ' (gTo F hid g j) (putD o.dst tmS (F.V j)) := by
  have hjN := (Array.getElem?_eq_some_iff.1 ho).1
  have hD := DS_add (F := F) (D := D) (S := S) hjN
  have hsub : ∀ x, DS F ops D S x → DS F ops D (Add S j) x := fun x hx => by rw [← hD]; exact .inl hx
  have hnx : (sAt F hid g j).nx = F.NX j := rfl
  have hnx' : (sTo F hid g j).nx = F.NX (j + 1) := rfl
  have hws : (sTo F hid g j).ws = F.WS j := rfl
  have hmono : F.NX j ≤ F.NX (j + 1) := c.mono (by omega) (by omega)
  have hrw := hst.rw'
  rw [hnx, hnx', hD] at hrw
  -- the two kinds of names
  have hcase : ∀ x, gTo F hid g j x ≠ .non → (Sees F hid g j x ∧ x < F.NX (j + 1) ∧ gTo F hid g j x = (sTo F hid g j).get x) ∨ (¬ (Sees F hid g j x ∧ x < F.NX (j + 1)) ∧ gTo F hid g j x = g x) := by
    intro x _
    by_cases hc : Sees F hid g j x ∧ x < F.NX (j + 1)
    · exact .inl ⟨hc.1, hc.2, by unfold gTo; rw [if_pos hc]⟩
    · exact .inr ⟨hc, by unfold gTo; rw [if_neg hc]⟩
  have hold : ∀ x, (sAt F hid g j).get x ≠ .non → g x ≠ .non := fun x hx => by obtain ⟨_, _, h⟩ := sAt_get hx; rw [h] at hx; exact hx
  have hblk : ∀ x, g x ≠ .non → ¬ (Sees F hid g j x ∧ x < F.NX (j + 1)) → ∀ z, (sAt F hid g j).get z ≠ .non → (σS z).blk ≠ (σS x).blk := by
    intro x hx hn z hz he
    obtain ⟨h1, h2, _⟩ := sAt_get hz
    have := hI.inj z x (hold z hz) hx he
    subst this
    exact hn ⟨h1, by omega⟩
  have hσ : ∀ x, g x ≠ .non → σ' x = σS x := fun x hx => hst.ext x (hI.dom x hx)
  refine ⟨fun x hx => ?_, fun x hx => ?_, fun x z hx hz he => ?_, fun x hx => ?_, Nat.le_trans hI.size hst.size, hst.os.trans hI.os, hst.tape.trans hI.tape, hst.output.trans hI.output, fun b hb hn => ?_, fun x hx => ?_, fun x hx => ?_, fun x hh hx => ?_, ?_, fun t => ?_, ?_, ?_⟩
  · -- dom
    rcases hcase x hx with ⟨_, _, h⟩ | ⟨_, h⟩
    · rw [h] at hx; exact hrw.dom x hx
    · rw [h] at hx; exact hsub x (hI.dom x hx)
  · -- obj
    rcases hcase x hx with ⟨_, _, h⟩ | ⟨hc, h⟩
    · rw [h] at hx ⊢; exact hrw.obj x hx
    · rw [h] at hx ⊢
      have ho := hI.obj x hx
      rw [hσ x hx]
      refine ho.mono hst.ext hsub (hst.frame _ (ho.lt hx) fun z _ hz => hblk x hx hc z hz)
  · -- inj
    rcases hcase x hx with ⟨h1, h2, h⟩ | ⟨hc, h⟩ <;> rcases hcase z hz with ⟨k1, k2, k⟩ | ⟨kc, k⟩
    · rw [h] at hx; rw [k] at hz; exact hrw.inj x z hx hz he
    · rw [h] at hx; rw [k] at hz
      rw [hσ z hz] at he
      rcases hst.own x hx with hx' | ⟨_, hge | ⟨q, _, hq, hqe⟩⟩
      · rw [hσ x (hold x hx')] at he
        exact hI.inj x z (hold x hx') hz he
      · have := (hI.obj z hz).lt hz; omega
      · exact absurd (hqe.symm.trans he) (hblk z hz kc q hq)
    · rw [h] at hx; rw [k] at hz
      rw [hσ x hx] at he
      rcases hst.own z hz with hz' | ⟨_, hge | ⟨q, _, hq, hqe⟩⟩
      · rw [hσ z (hold z hz')] at he
        exact hI.inj x z hx (hold z hz') he
      · have := (hI.obj x hx).lt hx; omega
      · exact absurd (hqe.symm.trans he.symm) (hblk x hx hc q hq)
    · rw [h] at hx; rw [k] at hz
      rw [hσ x hx, hσ z hz] at he
      exact hI.inj x z hx hz he
  · -- ext
    rw [hst.ext x (.inl hx)]; exact hI.ext x hx
  · -- frame
    rw [hst.frame b (Nat.lt_of_lt_of_le hb hI.size) fun x hx hv he => ?_]
    · exact hI.frame b hb hn
    · have hg := hold x hv
      obtain ⟨_, hxj, _⟩ := sAt_get hv
      have hxF : x ∈ wsF := (c.st j o ho).ws x hx hxj
      rcases hI.own x hg with h | ⟨_, h | ⟨q, hq, hqv, hqe⟩⟩
      · exact hn x hxF h (by rw [← hI.ext x (hwD.dom x h)]; exact he)
      · omega
      · exact hn q hq hqv (by rw [← hqe]; exact he)
  · -- own
    rcases hcase x hx with ⟨h1, h2, h⟩ | ⟨hc, h⟩
    · rw [h] at hx
      rcases hst.own x hx with hx' | ⟨hxj, hge | ⟨q, hq, hqv, hqe⟩⟩
      · rw [hσ x (hold x hx')]; exact hI.own x (hold x hx')
      · exact .inr ⟨by rw [hs0]; exact Nat.le_trans (c.mono (by omega) (by omega)) hxj, .inl (Nat.le_trans hI.size hge)⟩
      · have hx0 : s.nx ≤ x := by rw [hs0]; exact Nat.le_trans (c.mono (by omega) (by omega)) hxj
        have hqF : q ∈ wsF := (c.st j o ho).ws q hq (sAt_get hqv).2.1
        rcases hI.own q (hold q hqv) with h | ⟨_, h | ⟨q', h1, h2, h3⟩⟩
        · exact .inr ⟨hx0, .inr ⟨q, hqF, h, by rw [hqe, hI.ext q (hwD.dom q h)]⟩⟩
        · exact .inr ⟨hx0, .inl (by rw [hqe]; exact h)⟩
        · exact .inr ⟨hx0, .inr ⟨q', h1, h2, by rw [hqe, h3]⟩⟩
    · rw [h] at hx
      rw [hσ x hx]; exact hI.own x hx
  · -- vis
    rcases hcase x hx with ⟨h1, h2, h⟩ | ⟨hc, h⟩
    · have hh := (sees_iff.1 h1).1
      rcases Nat.lt_or_ge x (F.NX j) with hxj | hxj
      · obtain ⟨v1, v2⟩ := c.sees hpre ho hxj hh
        exact ⟨v1, v2.imp id fun ⟨k, h1, h2, h3⟩ => ⟨k, h1, .inl h2, h3⟩⟩
      · rw [hidden_append, Bool.or_eq_false_iff] at hh
        exact ⟨hh.2, .inr ⟨j, hjN, .inr rfl, hxj, h2⟩⟩
    · rw [h] at hx
      obtain ⟨v1, v2⟩ := hI.vis x hx
      exact ⟨v1, v2.imp id fun ⟨k, h1, h2, h3⟩ => ⟨k, h1, .inl h2, h3⟩⟩
  · -- cont
    by_cases hnew : F.NX j ≤ x ∧ x < F.NX (j + 1)
    · -- made here
      have hsees : Sees F hid g j x := by
        rw [sees_iff, hidden_append, Bool.or_eq_false_iff]
        refine ⟨⟨?_, hh⟩, fun h => by omega⟩
        cases hq : hidden x (F.HS j) with
        | false => rfl
        | true =>
          obtain ⟨i', h1, h2, h3, _⟩ := (c.hs j o ho x).1 hq
          have := c.mono (i := i' + 1) (j := j) (by omega) (by omega); omega
      refine ⟨j + 1, hjN, ?_, hnew.2, fun i hi hd => ?_⟩
      · unfold gTo; rw [if_pos ⟨hsees, hnew.2⟩, sTo_get hsees hnew.2]
      · have hij : j < i := by
          rcases Nat.lt_or_ge j i with h | h
          · exact h
          · have := c.mono (i := i) (j := j) h (by omega)
            have := hd.2.1; omega
        constructor
        · rintro (h | h)
          · exfalso
            have hp : Pre ops i j := Classical.byContradiction fun hp => by
              have := (c.hs i _ (Array.getElem?_eq_getElem hi) x).2 ⟨j, hij, hnew.1, hnew.2, hp⟩
              have hd3 := hd.2.2
              rw [hidden_append, this] at hd3; simp at hd3
            exact hj (hS i hi h j hp)
          · omega
        · intro h; omega
    · have hx' : x < F.NX 0 ∨ ∃ k, k < ops.size ∧ S k ∧ F.NX k ≤ x ∧ x < F.NX (k + 1) := hx.imp id fun ⟨k, h1, h2, h3⟩ => ⟨k, h1, h2.resolve_right (fun e => hnew (e ▸ h3)), h3⟩
      obtain ⟨m, hm, hg, hxm, hd⟩ := hI.cont x hh hx'
      by_cases hdj : Dirt F hid j x
      · have hsees : Sees F hid g j x := sees_iff.2 ⟨hdj.2.2, fun hxj => Classical.byContradiction fun hne => by
          obtain ⟨l, h1, h2⟩ := c.fresh hI hS ho hj hpre hxj hdj.2.2 hne
          exact h2 (c.touch ho hdj h1)⟩
        have hx1 : x < F.NX (j + 1) := Nat.lt_of_lt_of_le hdj.2.1 hmono
        refine ⟨j + 1, hjN, by unfold gTo; rw [if_pos ⟨hsees, hx1⟩, sTo_get hsees hx1], hx1, fun i hi hdi => ?_⟩
        by_cases hij : i = j
        · subst hij; exact ⟨fun _ => by omega, fun _ => .inr rfl⟩
        · rcases c.both (Array.getElem?_eq_getElem hi) ho hij hdi hdj with h | h
          · have h1 := pre_lt i j hi h
            exact ⟨fun h' => absurd (hS i hi (h'.resolve_right hij) j h) hj, fun h' => by omega⟩
          · have h1 := pre_lt j i hjN h
            exact ⟨fun _ => by omega, fun _ => .inl (hpre i h)⟩
      · refine ⟨m, hm, ?_, hxm, fun i hi hdi => ?_⟩
        · by_cases hc : Sees F hid g j x ∧ x < F.NX (j + 1)
          · have hxj : x < F.NX j := by
              rcases Nat.lt_or_ge x (F.NX j) with h | h
              · exact h
              · exact absurd ⟨h, hc.2⟩ hnew
            unfold gTo
            rw [if_pos hc, sTo_get hc.1 hc.2, ← hg, (sees_iff.1 hc.1).2 hxj]
            exact c.keep hxj (by omega) hjN fun i h1 h2 hdi => by
              have : i = j := by omega
              exact hdj (this ▸ hdi)
          · unfold gTo; rw [if_neg hc, hg]
        · have hij : i ≠ j := fun e => hdj (e ▸ hdi)
          rw [← hd i hi hdi]
          exact ⟨fun h => h.resolve_right hij, .inl⟩
  · -- tmp
    exact Rt.put (hI.tmp.mono hst.ext hsub) (fun t ht => by rw [hI.tsz]; exact hdst t ht) hy
  · -- tcont
    by_cases hd : o.dst = some t
    · refine ⟨j + 1, hjN, ?_, fun i oi hi hdi => ?_⟩
      · rw [(c.st j o ho).tm, cOpr_dst, hd]
        simp only [putD, gt_st, if_pos]
      · have hiN := (Array.getElem?_eq_some_iff.1 hi).1
        by_cases hij : i = j
        · subst hij; exact ⟨fun _ => by omega, fun _ => .inr rfl⟩
        · rcases Nat.lt_or_ge i j with h | h
          · rcases c.temps hi ho h with h' | ⟨h', _⟩
            · exact ⟨fun _ => by omega, fun _ => .inl (hpre i h')⟩
            · exact absurd (aT_dst (by rw [cOpr_dst]; exact hd)) (h' t hdi)
          · rcases c.temps ho hi (by omega) with h' | ⟨h', _⟩
            · exact ⟨fun h1 => absurd (hS i hiN (h1.resolve_right hij) j h') hj, fun h1 => by omega⟩
            · exact absurd (aT_dst (by rw [cOpr_dst]; exact hdi)) (h' t hd)
    · obtain ⟨m, hm, hg, hd'⟩ := hI.tcont t
      refine ⟨m, hm, ?_, fun i oi hi hdi => ?_⟩
      · rw [← hg]
        cases hq : o.dst with
        | none => rfl
        | some d => simp only [putD]; rw [gt_st, if_neg]; intro e; subst e; exact hd hq
      · have hij : i ≠ j := fun e => by subst e; rw [ho] at hi; cases hi; exact hd hdi
        rw [← hd' i oi hi hdi]
        exact ⟨fun h => h.resolve_right hij, .inl⟩
  · rw [put_size]; exact hI.tsz
  · rw [put_defers]; exact hI.defers
end
end Go.VM

namespace Go.VM
open Go
section
variable {P : Program} {r : Rec} {ops : Array Oper} {F : Trc} {hid : List (Nat × Nat)} {wsF : List Nat} {lsF : List Log} {anyF : Bool}
variable {σ : Nat → Loc} {D : Nat → Prop} {s : S} {w0 : World} {n : Nat} {ds : List Deferred}

def SL (listed : Array Bool) (i : Nat) : Prop := listed.getD i false = true

theorem SL_set {listed : Array Bool} {j : Nat} (hj : j < listed.size) : SL (listed.setIfInBounds j true) = Add (SL listed) j := by
  funext i
  apply propext
  show (listed.setIfInBounds j true).getD i false = true ↔ listed.getD i false = true ∨ i = j
  rw [Array.getD_eq_getD_getElem?, Array.getD_eq_getD_getElem?, Array.getElem?_setIfInBounds]
  by_cases h : j = i
  · subst h; rw [if_pos rfl, if_pos hj]; simp
  · rw [if_neg h]
    exact ⟨.inl, fun h' => h'.resolve_right fun e => h e.symm⟩

theorem count_set {listed : Array Bool} {j : Nat} (hj : j < listed.size) (hf : listed.getD j true = false) : (listed.setIfInBounds j true).toList.count false + 1 = listed.toList.count false := by
  have hg : listed.toList[j]'(by simpa using hj) = false := by
    rw [Array.getD_eq_getD_getElem?, Array.getElem?_eq_getElem hj] at hf
    simpa using hf
  rw [Array.toList_setIfInBounds, List.count_set (by simpa using hj)]
  have hpos : 0 < listed.toList.count false := List.count_pos_iff.2 (hg ▸ List.getElem_mem _)
  rw [hg]
  have e1 : (if (false == false) = true then 1 else 0) = 1 := rfl
  have e2 : (if (true == false) = true then 1 else 0) = 0 := rfl
  rw [e1, e2]; omega

theorem all_listed {listed : Array Bool} (hsz : listed.size = ops.size) (hback : ∀ i o, ops[i]? = some o → ∀ e ∈ o.after, Region.binds .any e = true → e.on < i) (hr : Region.ready .any ops listed = []) : ∀ i, i < ops.size → SL listed i := by
  intro i
  induction i using Nat.strongRecOn with
  | _ i ih =>
    intro hi
    refine Classical.byContradiction fun hn => ?_
    have hf : listed.getD i true = false := by
      unfold SL at hn
      rw [Array.getD_eq_getD_getElem?, Array.getElem?_eq_getElem (by omega)] at hn ⊢
      simpa using hn
    have : i ∈ Region.ready .any ops listed := mem_ready.2 ⟨hf, _, Array.getElem?_eq_getElem hi, fun e he hb => ih e.on (hback i _ (Array.getElem?_eq_getElem hi) e he hb) (by
      have := hback i _ (Array.getElem?_eq_getElem hi) e he hb; omega)⟩
    rw [hr] at this; simp at this

theorem di_run (hc : SCall P r) (hr : SRound P r) (c : Cx P r ops F hid wsF lsF anyF) {r0 : Option Nat} {Q : Exit → Act → World → Prop}
    (hback : ∀ i o, ops[i]? = some o → ∀ e ∈ o.after, Region.binds .any e = true → e.on < i) (hoff : Off D (F.NX 0) (F.NX ops.size)) (hs0 : s.nx = F.NX 0) (hwD : RW P σ D s w0) (hdst : ∀ (i : Nat) (o : Oper), ops[i]? = some o → ∀ t, o.dst = some t → t < n)
    (hQ : ∀ S a w σS g tmS, (∀ i, i < ops.size → S i) → DI P ops F hid wsF σ D s w0 n ds S a w σS g tmS → Q .normal a w) :
    ∀ (fuel : Nat) (listed : Array Bool) (a : Act) (w : World) (σS : Nat → Loc) (g : Nat → AObj) (tmS : T AV), listed.size = ops.size → listed.toList.count false ≤ fuel → Down ops (SL listed) →
      DI P ops F hid wsF σ D s w0 n ds (SL listed) a w σS g tmS → wpAnyIn (Fn r0) 0 P .any ops Q fuel listed a w := by
  intro fuel
  induction fuel with
  | zero =>
    intro listed a w σS g tmS hsz hcnt hS hI
    have hall : ∀ i, i < ops.size → listed.getD i true = true := fun i hi => by
      rw [Array.getD_eq_getD_getElem?, Array.getElem?_eq_getElem (by omega), Option.getD_some]
      have h0 : listed.toList.count false = 0 := by omega
      have hm := List.count_eq_zero.1 h0
      cases hq : listed[i]'(by omega) with
      | true => rfl
      | false => exact absurd (by rw [← hq]; simp) hm
    have hr0 : Region.ready .any ops listed = [] := by
      rw [List.eq_nil_iff_forall_not_mem]
      intro j hj
      obtain ⟨h1, o, ho, _⟩ := mem_ready.1 hj
      rw [hall j (Array.getElem?_eq_some_iff.1 ho).1] at h1; cases h1
    exact ⟨hr0, hQ _ _ _ _ _ _ (all_listed hsz hback hr0) hI⟩
  | succ fuel ih =>
    intro listed a w σS g tmS hsz hcnt hS hI
    refine ⟨fun hr0 => hQ _ _ _ _ _ _ (all_listed hsz hback hr0) hI, fun j hj => ?_⟩
    obtain ⟨h1, o, ho, hall⟩ := mem_ready.1 hj
    have hjN := (Array.getElem?_eq_some_iff.1 ho).1
    have hnS : ¬ SL listed j := fun h => by
      unfold SL at h
      rw [Array.getD_eq_getD_getElem?, Array.getElem?_eq_getElem (by omega)] at h h1
      simp at h h1; rw [h] at h1; cases h1
    have hpre := down_ready hS ho hall
    unfold wpOpIn
    simp only [ho]
    refine op1_ok hc hr (c.op hI hS ho hnS hpre) (hI.rw c) hI.tmp (off_ds c hoff hjN hnS) fun y w' ⟨σ', hst, hy⟩ => ?_
    have hD := DS_add (F := F) (D := D) (S := SL listed) hjN
    have hy' : R σ' (DS F ops D (Add (SL listed) j)) (F.V j) y := by rw [← hD]; exact hy
    have hI' := step_DI c hI hS ho hnS hpre hs0 hwD (hdst j o ho) hst hy'
    refine ih _ _ _ σ' _ _ (by simpa using hsz) (by have := count_set (by omega) h1; omega) ?_ (by rw [SL_set (by omega)]; exact hI')
    rw [SL_set (by omega)]; exact down_add hS hpre

theorem dOkO_get {n : Nat} : ∀ {l : List AOpr}, dOkO n l = true → ∀ (i : Nat) (o : AOpr), l[i]? = some o → ∀ d, o.dst = some d → d < n
  | [], _, i, o, ho, _, _ => by simp at ho
  | x :: l, h, i, o, ho, d, hd => by
    rw [dOkO_cons] at h
    cases i with
    | zero => simp only [List.getElem?_cons_zero, Option.some.injEq] at ho; subst ho; exact h.1 d hd
    | succ i => simp only [List.getElem?_cons_succ] at ho; exact dOkO_get h.2 i o ho d hd

theorem draw_ok {r : Rec} (hm : P.follows .mixedOrders = true) (hc : SCall P r) (hr : SRound P r) (hsr : SynRec r) : SDraw P r := by
  intro id ops tm s tm' s' hdo hok
  have hdo0 := hdo
  unfold drawOk at hdo
  rw [Bool.and_eq_true] at hdo
  have hback : ∀ i o, ops[i]? = some o → ∀ e ∈ o.after, Region.binds .any e = true → e.on < i := by
    intro i o ho e he hb
    have h1 := List.all_eq_true.1 hdo.2 (o, i) (by
      rw [List.mem_zipIdx_iff_getElem?]
      simpa using ho)
    have h2 := List.all_eq_true.1 h1 e (by simpa using he)
    rw [hb] at h2
    simpa [Nat.blt_eq] using h2
  refine ⟨XSyn.of_norm (opsD_syn hsr _ hok), fun r0 σ D a w h0 hw ht hdk hmk hh0 hro hoff => ?_⟩
  obtain ⟨hh, n0, ws, hid⟩ := s
  obtain ⟨F, lsF, anyF, wsF, b1, b2, b3, b4, b5, b6, b7, b8, b9, b10⟩ := opsD_tr hsr _ _ _ _ _ _ _ _ _ _ _ hok
  rw [Nat.zero_add, drawL_len] at b4 b5
  subst b4 b5
  have c : Cx P r ops F hid wsF lsF anyF := by
    refine ⟨hsr, fun i o ho => ?_, fun i o ho x => ?_, b9, hdo.1⟩
    · have := (b10 i _ (drawL_get ho)).1
      rw [Nat.zero_add] at this; exact this
    · have := (b10 i _ (drawL_get ho)).2 x
      simp only [Nat.zero_add] at this
      rw [this]
      constructor
      · rintro (h | ⟨i', h1, h2, h3, h4⟩)
        · simp [hides, hidden] at h
        · exact ⟨i', h1, h2, h3, by unfold Pre; rw [cOpr_pred] at h4; rw [h4]; simp⟩
      · rintro ⟨i', h1, h2, h3, h4⟩
        refine .inr ⟨i', h1, h2, h3, ?_⟩
        unfold Pre at h4
        rw [cOpr_pred]
        simpa using h4
  have hdd : dOkO a.tmps.size (drawL P ops) = true := by
    have e : cCode P (.region id ops true) = .region (drawL P ops) true := by simp only [cCode, hdo0]
    rw [e] at hdk; exact hdk
  have hdst : ∀ (i : Nat) (o : Oper), ops[i]? = some o → ∀ t, o.dst = some t → t < a.tmps.size := fun i o ho t hd => dOkO_get hdd i _ (drawL_get ho) t (by rw [cOpr_dst]; exact hd)
  have hoffD : Off D (F.NX 0) (F.NX ops.size) := by
    have := hoff _ _ _ (.norm _ _)
    rw [b3]; exact this
  have hn0 : n0 = F.NX 0 := b3.symm
  have hDS0 : DS F ops D (SL (Array.replicate ops.size false)) = D := by
    funext x
    apply propext
    refine ⟨fun h => h.resolve_right ?_, .inl⟩
    rintro ⟨k, h1, h2, _⟩
    unfold SL at h2
    rw [Array.getD_eq_getD_getElem?, Array.getElem?_replicate] at h2
    split at h2 <;> simp at h2
  have hSL0 : ∀ i, ¬ SL (Array.replicate ops.size false) i := by
    intro i h2
    unfold SL at h2
    rw [Array.getD_eq_getD_getElem?, Array.getElem?_replicate] at h2
    split at h2 <;> simp at h2
  refine wpIn_region_any hm (di_run hc hr c (σ := σ) (D := D) (s := ⟨hh, n0, ws, hid⟩) (w0 := w) (n := a.tmps.size) (ds := a.defers) hback hoffD hn0 hw hdst ?_ ops.size (Array.replicate ops.size false) a _ σ (fun x => S.get ⟨hh, n0, ws, hid⟩ x) tm (by simp) ?_ ?_ ?_)
  · -- the end
    intro S a' w' σS g tmS hall hI
    have hg : ∀ x, hidden x hid = false → x < F.NX ops.size → g x = (F.H ops.size).get .non x := by
      intro x h1 h2
      have hx : x < F.NX 0 ∨ ∃ k, k < ops.size ∧ S k ∧ F.NX k ≤ x ∧ x < F.NX (k + 1) := by
        rcases Nat.lt_or_ge x (F.NX 0) with h | h
        · exact .inl h
        · obtain ⟨k, k1, k2⟩ := c.maker h (Nat.le_refl _) h2
          exact .inr ⟨k, k1, hall k k1, k2⟩
      obtain ⟨m, hm, hg, hxm, hd⟩ := hI.cont x h1 hx
      rw [hg]
      exact (c.keep hxm hm (Nat.le_refl _) fun i h3 h4 hdi => by have := (hd i h4 hdi).1 (hall i h4); omega).symm
    have hget : ∀ x, VM.S.get ⟨F.H ops.size, F.NX ops.size, wsF, hid⟩ x ≠ .non → VM.S.get ⟨F.H ops.size, F.NX ops.size, wsF, hid⟩ x = g x ∧ x < F.NX ops.size := by
      intro x hx
      rw [get_mk] at hx ⊢
      by_cases hc : hidden x hid = true ∨ F.NX ops.size ≤ x
      · rw [if_pos hc] at hx; exact absurd rfl hx
      · rw [if_neg hc]
        rw [not_or] at hc
        exact ⟨(hg x (by simpa using hc.1) (by omega)).symm, by omega⟩
    have hDU : ∀ x, DS F ops D S x → Up D n0 (F.NX ops.size) x := by
      rintro x (h | ⟨k, h1, h2, h3, h4⟩)
      · exact .inl h
      · refine .inr ⟨by rw [hn0]; exact Nat.le_trans (c.mono (by omega) (by omega)) h3, Nat.lt_of_lt_of_le h4 (c.mono (by omega) (by omega))⟩
    have hst : Stp P σ D ⟨hh, n0, ws, hid⟩ w σS ⟨F.H ops.size, F.NX ops.size, wsF, hid⟩ w' := by
      refine ⟨hI.ext, ⟨fun x hx => ?_, fun x hx => (hget x hx).2, fun x hx => ?_, fun x y hx hy => ?_⟩, hI.size, hI.os, hI.tape, hI.output, hI.frame, fun x hx => ?_⟩
      · rw [(hget x hx).1] at hx; exact hDU x (hI.dom x hx)
      · have h := (hget x hx).1; rw [h] at hx ⊢; exact (hI.obj x hx).mono (fun _ _ => rfl) hDU rfl
      · rw [(hget x hx).1] at hx; rw [(hget y hy).1] at hy; exact hI.inj x y hx hy
      · rw [(hget x hx).1] at hx; exact hI.own x hx
    refine ⟨_, _, σS, .norm _ _, hst, fun t => ?_, hI.tsz, by rw [hI.defers]; exact hmk.stp hst hw⟩
    obtain ⟨m, hm, hg, hd⟩ := hI.tcont t
    have e : gt (F.TM ops.size) t = gt tmS t := by
      rw [hg]
      exact c.tkeep hm (Nat.le_refl _) fun i o h1 h2 hi e => by have := (hd i o hi e).1 (hall i h2); omega
    rw [e]
    exact (hI.tmp t).mono (fun _ _ => rfl) hDU
  · simp
  · intro i _ h; exact absurd h (hSL0 i)
  · refine ⟨fun x hx => .inl (hw.dom x hx), fun x hx => ?_, hw.inj, fun _ _ => rfl, Nat.le_refl _, rfl, rfl, rfl, fun _ _ _ => rfl, fun x hx => .inl hx, fun x hx => ?_, fun x h1 h2 => ?_, ?_, fun t => ⟨0, Nat.zero_le _, by rw [b1], fun i o _ _ => ?_⟩, rfl, rfl⟩
    · rw [hDS0]; exact (hw.obj x hx).mono (fun _ _ => rfl) (fun _ h => h) rfl
    · rw [get_mk] at hx
      by_cases hc : hidden x hid = true ∨ n0 ≤ x
      · rw [if_pos hc] at hx; exact absurd rfl hx
      · rw [not_or] at hc
        exact ⟨by simpa using hc.1, .inl (by rw [← hn0]; omega)⟩
    · have hx0 : x < F.NX 0 := h2.resolve_right fun ⟨k, _, h, _⟩ => hSL0 k h
      refine ⟨0, Nat.zero_le _, ?_, hx0, fun i _ _ => ⟨fun h => absurd h (hSL0 i), fun h => by omega⟩⟩
      show VM.S.get _ x = _
      rw [get_mk, if_neg, b2]
      rw [h1, hn0]; simp; omega
    · rw [hDS0]; exact ht
    · exact ⟨fun h => absurd h (hSL0 i), fun h => by omega⟩
end
end Go.VM

namespace Go.VM
open Go
section
variable {P : Program} {σ : Nat → Loc} {D : Nat → Prop} {s s' : S} {w : World} {v : AV}

theorem prims_syn {E : Env} (hp : PrimsOk P E) : ∀ f p, E.prim f = some p → ∀ args s v s', p args s = .ok v s' → Syn s s' := fun f p h args s v s' h' => (hp f p h args s v s' h').1

theorem vm_zero (E : Env) : vm E 0 = ⟨fun _ _ _ => .no, fun _ _ _ => .no, fun _ _ _ => .no⟩ := rfl
theorem vm_succ (E : Env) (n : Nat) : vm E (n + 1) = ⟨execF (vm E n), callF E (vm E n), roundF (vm E n)⟩ := rfl

/-- WHAT THE VM SAYS, THE MACHINE DOES -/
theorem vm_ok {E : Env} (hm : P.follows .mixedOrders = true) (hf : FnsOk P E) (hp : PrimsOk P E) : ∀ n, SCall P (vm E n) ∧ SRound P (vm E n) ∧ SLoop P (vm E n)
  | 0 => by
    rw [vm_zero]
    exact ⟨fun _ _ _ _ _ h => (by cases h), fun _ _ _ _ _ h => (by cases h), fun _ _ _ h => absurd rfl h⟩
  | n + 1 => by
    obtain ⟨hc, hr, hl⟩ := vm_ok hm hf hp n
    have hsr := vm_syn (prims_syn hp) n
    have hd := draw_ok hm hc hr hsr
    have hrg := xRange_ok hc hsr
    have hx := execF_ok hc hr hd hrg hl
    rw [vm_succ]
    exact ⟨fun f args s v s' h => callF_ok hf hp hx h, fun l args s v s' h => roundF_ok hx hsr h, fun c tm s h => loopF_ok hc hr hd hrg hl c tm s h⟩

noncomputable def s0 : S := ⟨.e, 0, [], []⟩
theorem s0_get (x : Nat) : s0.get x = .non := by
  unfold s0; rw [get_mk, if_pos (.inr (Nat.zero_le x))]

theorem s0_rw (σ : Nat → Loc) (w : World) : RW P σ (fun _ => False) s0 w :=
  ⟨fun x h => absurd (s0_get x) h, fun x h => absurd (s0_get x) h, fun x h => absurd (s0_get x) h, fun x _ h _ => absurd (s0_get x) h⟩

/-- what a run leaves of the world that it found -/
structure Left (w w' : World) : Prop where
  size : w.heap.size ≤ w'.heap.size
  heap : ∀ b, b < w.heap.size → w'.heap[b]? = w.heap[b]?
  os : w'.os = w.os
  tape : w'.tape = w.tape
  output : w'.output = w.output

/-- A CALL, OUT OF THE VM's RUN -/
theorem vm_calls {E : Env} (hm : P.follows .mixedOrders = true) (hf : FnsOk P E) (hp : PrimsOk P E) {n f : Nat} {args : List AV} (h : (vm E n).call f args s0 = .ok v s') {l : List Value} (hl : Rs (fun _ => ⟨0, 0, 0⟩) (fun _ => False) args l) {fn : Func} {c : Code} (hfn : P.funcs[f]? = some fn) (hb : fn.body = some c)
    (w : World) : Calls P f ⟨l⟩ w (fun e w' => ∃ y, e = .returned y ∧ (∃ σ' D', R σ' D' v y) ∧ Left w w') := by
  rcases ((vm_ok hm hf hp n).1 _ _ _ _ _ h).2 (fun _ => ⟨0, 0, 0⟩) (fun _ => False) w l (s0_rw _ _) hl (fun _ h => h.elim) with ⟨y, w', h1, _⟩ | ⟨h1, h2⟩
  · exfalso
    simp only [callFunc, Sem.run_bind] at h1
    by_cases hq : fn.name = "runtime.NumGoroutine" <;> simp [hfn, hb, hq] at h1
  · have : CallsIn Fence.wide 0 P f ⟨l⟩ w (fun e w' => ∃ y, e = .returned y ∧ Aft P (fun _ => ⟨0, 0, 0⟩) (fun _ => False) s0 w v s' y w') := h2
    refine (callsIn_wide.1 this).mono ?_
    rintro e w' ⟨y, rfl, σ', hst, hy⟩
    exact ⟨y, rfl, ⟨σ', _, hy⟩, hst.size, fun b hb => hst.frame b hb fun x _ hx => absurd (s0_get x) hx, hst.os, hst.tape, hst.output⟩
end
end Go.VM

