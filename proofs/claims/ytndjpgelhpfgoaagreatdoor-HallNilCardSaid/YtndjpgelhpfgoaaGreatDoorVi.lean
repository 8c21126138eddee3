/-
  Part of the proof by an abstract machine (PrimA PrimB Tab PrimC): what each theorem says stands at it; it asks what its own hypotheses say.
-/
import Derived.Test.YtndjpgelhpfgoaaGreatDoorVh
import Derived.KernelRfl
namespace Go.VM
open Go
section
variable {P : Program} {σ : Nat → Loc} {D : Nat → Prop} {s s' : S} {w w' : World} {v : AV}

mutual
/-- a value that leads to no name -/
def closed : AV → Bool
  | .top => true
  | .int .. => true
  | .rng .. => true
  | .bool _ => true
  | .str _ => true
  | .nil => true
  | .snil => true
  | .sle => true
  | .mnil => true
  | .fnil => true
  | .inil => true
  | .agg cs => closeds cs
  | .tup cs => closeds cs
  | _ => false
def closeds : List AV → Bool
  | [] => true
  | v :: l => closed v && closeds l
end

mutual
theorem closed_R' {σ' : Nat → Loc} {D' : Nat → Prop} : ∀ {v : AV} {y : Value}, R σ D v y → closed v = true → R σ' D' v y
  | _, _, .top v h, _ => .top v h
  | _, _, .int k n, _ => .int k n
  | _, _, .rng k l h n h1 h2, _ => .rng k l h n h1 h2
  | _, _, .bool b, _ => .bool b
  | _, _, .str s h, _ => .str s h
  | _, _, .nil, _ => .nil
  | _, _, .snil, _ => .snil
  | _, _, .sle a c, _ => .sle a c
  | _, _, .mnil, _ => .mnil
  | _, _, .fnil, _ => .fnil
  | _, _, .inil, _ => .inil
  | _, _, .agg cs l h, hc => .agg cs l (closeds_R' h (by simpa [closed] using hc))
  | _, _, .tup cs l h, hc => .tup cs l (closeds_R' h (by simpa [closed] using hc))
  | _, _, .ptr .., hc => by simp [closed] at hc
  | _, _, .sl .., hc => by simp [closed] at hc
  | _, _, .slo .., hc => by simp [closed] at hc
  | _, _, .map .., hc => by simp [closed] at hc
  | _, _, .fn .., hc => by simp [closed] at hc
  | _, _, .yld .., hc => by simp [closed] at hc
  | _, _, .ifc .., hc => by simp [closed] at hc
theorem closeds_R' {σ' : Nat → Loc} {D' : Nat → Prop} : ∀ {v : List AV} {y : List Value}, Rs σ D v y → closeds v = true → Rs σ' D' v y
  | _, _, .nil, _ => .nil
  | _, _, .cons a v l m h1 h2, hc => .cons a v l m (closed_R' h1 (by simp [closeds] at hc; exact hc.1)) (closeds_R' h2 (by simp [closeds] at hc; exact hc.2))
end
theorem closed_R {σ' : Nat → Loc} {D' : Nat → Prop} {v : AV} {y : Value} (hc : closed v = true) (h : R σ D v y) : R σ' D' v y := closed_R' h hc
theorem closeds_R {σ' : Nat → Loc} {D' : Nat → Prop} {v : List AV} {y : List Value} (hc : closeds v = true) (h : Rs σ D v y) : Rs σ' D' v y := closeds_R' h hc

theorem Called.mono {f : Nat} {l : List Value} {K K' : Value → World → Prop} (hk : ∀ y w', K y w' → K' y w') (h : Called P f l w K) : Called P f l w K' := by
  rcases h with ⟨y, w', h1, h2, h3⟩ | ⟨h1, h2⟩
  · exact .inl ⟨y, w', h1, h2, hk _ _ h3⟩
  · refine .inr ⟨h1, h2.mono ?_⟩
    rintro e w' ⟨y, rfl, hy⟩
    exact ⟨y, rfl, hk _ _ hy⟩

/-- nothing older was written -/
theorem Stp.of_left (hw : RW P σ D s w) (h : Left w w') : Stp P σ D s w σ s w' := by
  refine ⟨fun _ _ => rfl, ?_, h.size, h.os, h.tape, h.output, fun b hb _ => h.heap b hb, fun x hx => .inl hx⟩
  have base : RW P σ D s w' := ⟨hw.dom, hw.lt, fun x hx => (hw.obj x hx).mono (fun _ _ => rfl) (fun _ h => h) (h.heap _ ((hw.obj x hx).lt hx)), hw.inj⟩
  exact base.congrD fun _ => Up.self.symm

/-- what a run from a small state, that writes nothing older, leaves -/
theorem Stp.left {s1 s2 : S} {σ1 σ2 : Nat → Loc} {D1 : Nat → Prop} (h : Stp P σ1 D1 s1 w σ2 s2 w') (hws : ∀ x ∈ s2.ws, ¬ x < s1.nx) (hlt : RW P σ1 D1 s1 w) : Left w w' :=
  ⟨h.size, fun b hb => h.frame b hb fun x hx hv => absurd (hlt.lt x hv) (hws x hx), h.os, h.tape, h.output⟩

/-- no name below a bound -/
noncomputable def noWs (n : Nat) (s : S) : Bool := match below n s.ws with
  | [] => true
  | _ :: _ => false
theorem noWs_iff {n : Nat} {s : S} (h : noWs n s = true) : ∀ x ∈ s.ws, ¬ x < n := by
  intro x hx hl
  unfold noWs at h
  split at h
  · rename_i hb
    have := (below_mem n x s.ws).2 ⟨hx, hl⟩
    rw [hb] at this; simp at this
  · cases h

/-- A RUN FROM A SMALL STATE, WHICH WRITES NOTHING OLDER AND HANDS BACK NO NAME, AS A STEP OF EVERY STATE -/
theorem pure_step {E : Env} (hm : P.follows .mixedOrders = true) (hf : FnsOk P E) (hp : PrimsOk P E) {n f : Nat} {a0 : List AV} {s1 s2 : S} (h : (vm E n).call f a0 s1 = .ok v s2) (hcl : closed v = true) (hno : noWs s1.nx s2 = true)
    {σ1 : Nat → Loc} {D1 : Nat → Prop} {l : List Value} (hw1 : RW P σ1 D1 s1 w) (hl : Rs σ1 D1 a0 l) (hoff : Off D1 s1.nx s2.nx) (hw : RW P σ D s w) : Called P f l w (Aft P σ D s w v s) := by
  refine Called.mono ?_ (((vm_ok hm hf hp n).1 _ _ _ _ _ h).2 σ1 D1 w l hw1 hl hoff)
  rintro y w' ⟨σ2, hst, hy⟩
  exact ⟨σ, Stp.of_left hw (hst.left (noWs_iff hno) hw1), closed_R hcl hy⟩

/-- .. where the arguments lead to no name -/
theorem pure_call {E : Env} (hm : P.follows .mixedOrders = true) (hf : FnsOk P E) (hp : PrimsOk P E) {n f : Nat} {a0 : List AV} {s2 : S} (h : (vm E n).call f a0 s0 = .ok v s2) (hcl : closed v = true)
    {l : List Value} (hl : Rs (fun _ => ⟨0, 0, 0⟩) (fun _ => False) a0 l) (hw : RW P σ D s w) : Called P f l w (Aft P σ D s w v s) :=
  pure_step hm hf hp h hcl (by
    unfold noWs
    have : ∀ l : List Nat, below s0.nx l = [] := by
      intro l
      rw [List.eq_nil_iff_forall_not_mem]
      intro x hx
      have := (below_mem _ _ _).1 hx
      exact absurd this.2 (Nat.not_lt_zero _)
    rw [this]) (s0_rw _ _) hl (fun _ h => h.elim) hw

/-! values that fit a row of kinds -/
def inK (k : IntKind) : AV → Bool
  | .int k' n => kEq k k' && (ile (kmin k) n && ile n (kmax k))
  | .rng k' l h => kEq k k' && (ile (kmin k) l && ile h (kmax k))
  | _ => false
def allK (k : IntKind) : List AV → Bool
  | [] => true
  | v :: l => match inK k v with
    | true => allK k l
    | false => false

theorem kEq_iff {a b : IntKind} (h : kEq a b = true) : a = b := by
  cases a <;> cases b <;> first | rfl | (simp [kEq, kno] at h)

theorem inK_R {k : IntKind} {v : AV} {y : Value} {σ' : Nat → Loc} {D' : Nat → Prop} (h : inK k v = true) (hr : R σ D v y) : R σ' D' (full k) y := by
  unfold inK at h
  split at h
  · rename_i k' n
    simp only [Bool.and_eq_true, ile_iff] at h
    cases hr
    have := kEq_iff h.1
    subst this
    exact .rng _ _ _ _ h.2.1 h.2.2
  · rename_i k' lo hi
    simp only [Bool.and_eq_true, ile_iff] at h
    cases hr with
    | rng _ _ _ n h1 h2 =>
      have := kEq_iff h.1
      subst this
      exact .rng _ _ _ _ (Int.le_trans h.2.1 h1) (Int.le_trans h2 h.2.2)
  · cases h

theorem allK_R {k : IntKind} {σ' : Nat → Loc} {D' : Nat → Prop} : ∀ {v : List AV} {y : List Value}, allK k v = true → Rs σ D v y → Rs σ' D' (List.replicate v.length (full k)) y
  | [], _, _, hr => by cases hr; exact .nil
  | v :: l, _, h, hr => by
    cases hr with
    | cons _ y _ m h1 h2 =>
      simp only [allK] at h
      split at h
      · rename_i hk; exact .cons _ _ _ _ (inK_R hk h1) (allK_R h h2)
      · cases h
end
end Go.VM

namespace Go.VM
open Go
section
variable {P : Program} {σ : Nat → Loc} {D : Nat → Prop} {s s' : S} {w w' : World} {v : AV}

/-! a small state that views parts of older objects -/
noncomputable def sVt : List (List AV) → Nat → T AObj → T AObj
  | [], _, t => t
  | v :: l, k, t => sVt l (Nat.succ k) (t.set .non k (.cells (ofList v) v.length 0 true))
noncomputable def sV (vs : List (List AV)) : S := ⟨sVt vs 0 .e, vs.length, [], []⟩

theorem sVt_get (x : Nat) : ∀ (vs : List (List AV)) (k : Nat) (t : T AObj), (sVt vs k t).get .non x = match vs[x - k]? with
    | some v => if k ≤ x then .cells (ofList v) v.length 0 true else t.get .non x
    | none => t.get .non x
  | [], k, t => by simp [sVt]
  | v :: l, k, t => by
    rw [sVt, sVt_get x l (k + 1) _]
    by_cases h : x = k
    · subst h
      have e : x - (x + 1) = 0 := by omega
      rw [e]
      simp only [Nat.sub_self, List.getElem?_cons_zero, Nat.le_refl, if_true]
      cases l with
      | nil => simp [get_set]
      | cons u l => simp only [List.getElem?_cons_zero]; rw [if_neg (by omega), get_set, if_pos rfl]
    · rw [get_set, if_neg h]
      rcases Nat.lt_or_ge x k with hlt | hge
      · have e1 : x - k = 0 := by omega
        have e2 : x - (k + 1) = 0 := by omega
        rw [e1, e2]
        simp only [List.getElem?_cons_zero]
        rw [if_neg (by omega)]
        cases l with
        | nil => rfl
        | cons u l => simp only [List.getElem?_cons_zero]; rw [if_neg (by omega)]
      · have e1 : x - k = (x - (k + 1)) + 1 := by omega
        rw [e1, List.getElem?_cons_succ]
        cases l[x - (k + 1)]? with
        | none => rfl
        | some u => simp only; rw [if_pos (by omega), if_pos hge]

theorem sV_get {vs : List (List AV)} {x : Nat} : (sV vs).get x = match vs[x]? with | some v => .cells (ofList v) v.length 0 true | none => .non := by
  unfold sV
  rw [get_mk, sVt_get]
  simp only [hidden, Bool.false_eq_true, false_or, Nat.sub_zero, Nat.zero_le, if_true]
  cases h : vs[x]? with
  | none => rw [if_pos (List.getElem?_eq_none_iff.1 h)]
  | some v => rw [if_neg (by have := (List.getElem?_eq_some_iff.1 h).1; omega)]

theorem sV_rw {vs : List (List AV)} {σ1 : Nat → Loc} (ho : ∀ k v, vs[k]? = some v → RO P σ1 (fun x => x < vs.length) (.cells (ofList v) v.length 0 true) (σ1 k) w)
    (hd : ∀ j k, j < vs.length → k < vs.length → (σ1 j).blk = (σ1 k).blk → j = k) : RW P σ1 (fun x => x < vs.length) (sV vs) w := by
  have hlt : ∀ x, (sV vs).get x ≠ .non → ∃ v, vs[x]? = some v := fun x hx => by
    rw [sV_get] at hx
    cases h : vs[x]? with
    | none => rw [h] at hx; exact absurd rfl hx
    | some v => exact ⟨v, rfl⟩
  have hl : ∀ x, (sV vs).get x ≠ .non → x < vs.length := fun x hx => by obtain ⟨v, h⟩ := hlt x hx; exact (List.getElem?_eq_some_iff.1 h).1
  refine ⟨hl, hl, fun x hx => ?_, fun x y hx hy => hd x y (hl x hx) (hl y hy)⟩
  obtain ⟨v, h⟩ := hlt x hx
  rw [sV_get, h]
  exact ho x v h

theorem gt_ofList {l : List AV} {i : Nat} (h : i < l.length) : gt (ofList l) i = l.getD i (.tup []) := by
  unfold ofList; rw [gt_setN, if_pos (by omega)]; simp

/-- a part of an object, viewed -/
theorem view_RO {b o m elem n : Nat} {ct : T AV} {p : Bool} (hw : RW P σ D s w) (hg : s.get b = .cells ct m elem p) (hle : o + n ≤ m) {bs : List AV} (hlen : bs.length = n) {σ1 : Nat → Loc} {D1 : Nat → Prop}
    (hr : ∀ ys, Rs σ D (getN ct n o) ys → Rs σ1 D1 bs ys) : RO P σ1 D1 (.cells (ofList bs) bs.length 0 true) ⟨(σ b).blk, (σ b).base + o, (σ b).tot⟩ w := by
  obtain ⟨C, el, lo, hi, h1, h2, h3, h4, h5, _⟩ := hw.cells hg
  refine ⟨C, el, lo, hi, h1, h2, by simp only; omega, fun i hi => ?_, h5, fun h => by cases h⟩
  -- all values of the view
  have hall : ∃ ys : List Value, Rs σ D (getN ct n o) ys ∧ ys.length = n ∧ ∀ j (hj : j < n), C[(σ b).base + (o + j)]? = ys[j]? := by
    have hf : ∀ j, j < n → ∃ v, C[(σ b).base + (o + j)]? = some v ∧ R σ D (gt ct (o + j)) v := fun j hj => h4 (o + j) (by omega)
    let f : Nat → Value := fun j => if hj : j < n then Classical.choose (hf j hj) else undef
    have hff : ∀ j (hj : j < n), C[(σ b).base + (o + j)]? = some (f j) ∧ R σ D (gt ct (o + j)) (f j) := fun j hj => by
      have := Classical.choose_spec (hf j hj)
      simp only [f, dif_pos hj]; exact this
    refine ⟨(List.range n).map f, Rs_of (by rw [getN_len]; simp) fun i hi => ?_, by simp, fun j hj => ?_⟩
    · rw [getN_len] at hi
      exact ⟨_, _, getN_get n o ct i hi, by simp [hi], (hff i hi).2⟩
    · rw [(hff j hj).1]; simp [hj]
  obtain ⟨ys, hy1, hy2, hy3⟩ := hall
  have hrs := hr ys hy1
  obtain ⟨x, hx, hrx⟩ := hrs.get i hi
  refine ⟨x, ?_, by rw [gt_ofList hi]; exact hrx⟩
  show C[(σ b).base + o + i]? = _
  rw [Nat.add_assoc, hy3 i (by omega), hx]

/-! a function of a slice of bytes -/
/-- what a slice holds; its room lies within the block -/
noncomputable def slArg (s : S) : AV → Option (List AV)
  | .sl b o n c => match s.get b with
    | .cells ct m _ _ => match Nat.ble n c && Nat.ble (Nat.add o c) m with
      | true => some (getN ct n o)
      | false => none
    | _ => none
  | .slo b o n e => match Nat.beq e 1 with
    | true => match s.get b with
      | .cells ct m _ _ => match Nat.ble (Nat.add o n) m with
        | true => some (getN ct n o)
        | false => none
      | _ => none
    | false => none
  | _ => none

theorem slArg_ok {x : AV} {cs : List AV} (h : slArg s x = some cs) (hw : RW P σ D s w) {y : Value} (hx : R σ D x y) {bs : List AV} (hlen : bs.length = cs.length)
    (hr : ∀ (σ1 : Nat → Loc) (D1 : Nat → Prop) ys, Rs σ D cs ys → Rs σ1 D1 bs ys) : ∃ σ1, RW P σ1 (fun x => x < 1) (sV [bs]) w ∧ R σ1 (fun x => x < 1) (.slo 0 0 bs.length 1) y := by
  have key : ∀ (b o n m elem : Nat) (ct : T AV) (p : Bool), s.get b = .cells ct m elem p → o + n ≤ m → cs = getN ct n o → RW P (fun _ => ⟨(σ b).blk, (σ b).base + o, (σ b).tot⟩) (fun x => x < 1) (sV [bs]) w := by
    intro b o n m elem ct p hg hle hcs
    refine sV_rw (vs := [bs]) (fun k v hk => ?_) (fun j k hj hk _ => by simp at hj hk; omega)
    have hk0 : k = 0 := by have := (List.getElem?_eq_some_iff.1 hk).1; simp at this; exact this
    subst hk0
    simp only [List.getElem?_cons_zero, Option.some.injEq] at hk
    subst hk
    exact view_RO hw hg hle (by rw [hlen, hcs, getN_len]) fun ys hy => hr _ _ ys (by rw [hcs]; exact hy)
  unfold slArg at h
  split at h
  · rename_i b o n c
    split at h
    · rename_i ct m elem p hg
      split at h
      · rename_i hc
        simp only [Option.some.injEq] at h
        rw [Bool.and_eq_true, Nat.ble_eq, Nat.ble_eq] at hc
        have hc2 : o + c ≤ m := hc.2
        cases hx with
        | sl _ _ _ _ hD =>
          refine ⟨_, key b o n m elem ct p hg (by omega) h.symm, ?_⟩
          obtain ⟨C, el, lo, hi, h1, h2, h3, h4, h5, _⟩ := hw.cells hg
          have hln : bs.length = n := by rw [hlen, ← h, getN_len]
          rw [hln]
          have := R.slo (σ := fun _ => (⟨(σ b).blk, (σ b).base + o, (σ b).tot⟩ : Loc)) (D := fun x => x < 1) 0 0 n 1 c (by omega) hc.1 (by simp only; omega)
          exact this
      · cases h
    · cases h
  · rename_i b o n e
    split at h
    · rename_i he
      have he' := Nat.eq_of_beq_eq_true he
      subst he'
      split at h
      · rename_i ct m elem p hg
        split at h
        · rename_i hc
          simp only [Option.some.injEq] at h
          rw [Nat.ble_eq] at hc
          have hc' : o + n ≤ m := hc
          cases hx with
          | slo _ _ _ _ cap hD h1 h2 =>
            refine ⟨_, key b o n m elem ct p hg hc' h.symm, ?_⟩
            have hln : bs.length = n := by rw [hlen, ← h, getN_len]
            rw [hln]
            exact R.slo (σ := fun _ => (⟨(σ b).blk, (σ b).base + o, (σ b).tot⟩ : Loc)) (D := fun x => x < 1) 0 0 n 1 cap (by omega) h1 (by simp only; omega)
        · cases h
      · cases h
    · cases h
  · cases h

/-- a small run on one slice, on one pointer -/
structure GoOk (P : Program) (f : Nat) (a : Nat → AV) (go : List AV → Option AV) : Prop where
  ok : ∀ cs v, go cs = some v → ∃ bs : List AV, bs.length = cs.length ∧ (∀ (σ : Nat → Loc) (D : Nat → Prop) (σ1 : Nat → Loc) (D1 : Nat → Prop) ys, Rs σ D cs ys → Rs σ1 D1 bs ys) ∧
    ∃ E n s2, P.follows .mixedOrders = true ∧ FnsOk P E ∧ PrimsOk P E ∧ (vm E n).call f [a bs.length] (sV [bs]) = .ok v s2 ∧ closed v = true ∧ noWs 1 s2 = true

noncomputable def pSlice (go : List AV → Option AV) : Prim := fun a s => match a with
  | [x] => match slArg s x with
    | some cs => match go cs with
      | some v => .ok v s
      | none => .no
    | none => .no
  | _ => .no
noncomputable def pPtr (m : Nat) (go : List AV → Option AV) : Prim := fun a s => match a with
  | [.ptr b o] => match loadN s b o m with
    | some cs => match go cs with
      | some v => .ok v s
      | none => .no
    | none => .no
  | _ => .no

theorem off_one {n : Nat} (h : 1 ≤ n) : Off (fun x => x < 1) 1 n := fun x hx => .inl hx

theorem pSlice_ok {f : Nat} {go : List AV → Option AV} (hgo : GoOk P f (fun n => .slo 0 0 n 1) go) {args : List AV} (h : pSlice go args s = .ok v s') :
    Syn s s' ∧ ∀ σ D w l, RW P σ D s w → Rs σ D args l → Off D s.nx s'.nx → Called P f l w (Aft P σ D s w v s') := by
  unfold pSlice at h
  split at h
  · rename_i x
    split at h
    · rename_i cs hcs
      split at h
      · rename_i v' hv
        simp only [RV.ok.injEq] at h
        obtain ⟨rfl, rfl⟩ := h
        refine ⟨Syn.refl _, fun σ D w l hw hl _ => ?_⟩
        obtain ⟨bs, h1, h2, E, n, s2, hm, hf, hp, hrun, hcl, hno⟩ := hgo.ok cs v' hv
        cases hl with
        | cons _ y _ m' hx hrest =>
          cases hrest
          obtain ⟨σ1, hw1, hx1⟩ := slArg_ok hcs hw hx h1 fun σ1 D1 ys hys => h2 σ D σ1 D1 ys hys
          have hsyn := ((vm_ok hm hf hp n).1 _ _ _ _ _ hrun).1
          exact pure_step hm hf hp hrun hcl hno hw1 (.cons _ _ _ _ hx1 .nil) (off_one hsyn.nx) hw
      · cases h
    · cases h
  · cases h

theorem pPtr_ok {f m : Nat} {go : List AV → Option AV} (hgo : GoOk P f (fun _ => .ptr 0 0) go) {args : List AV} (h : pPtr m go args s = .ok v s') :
    Syn s s' ∧ ∀ σ D w l, RW P σ D s w → Rs σ D args l → Off D s.nx s'.nx → Called P f l w (Aft P σ D s w v s') := by
  unfold pPtr at h
  split at h
  · rename_i b o
    split at h
    · rename_i cs hcs
      split at h
      · rename_i v' hv
        simp only [RV.ok.injEq] at h
        obtain ⟨rfl, rfl⟩ := h
        refine ⟨Syn.refl _, fun σ D w l hw hl _ => ?_⟩
        obtain ⟨bs, h1, h2, E, n, s2, hm, hf, hp, hrun, hcl, hno⟩ := hgo.ok cs v' hv
        cases hl with
        | cons _ y _ m' hx hrest =>
          cases hrest
          cases hx with
          | ptr _ _ hD =>
            unfold loadN at hcs
            split at hcs
            · rename_i ct mm elem p hg
              split at hcs
              · rename_i hle
                simp only [Option.some.injEq] at hcs
                rw [Nat.ble_eq] at hle
                have hle' : o + m ≤ mm := hle
                have hw1 : RW P (fun _ => ⟨(σ b).blk, (σ b).base + o, (σ b).tot⟩) (fun x => x < 1) (sV [bs]) w := by
                  refine sV_rw (vs := [bs]) (fun k v hk => ?_) (fun j k hj hk _ => by simp at hj hk; omega)
                  have hk0 : k = 0 := by have := (List.getElem?_eq_some_iff.1 hk).1; simp at this; exact this
                  subst hk0
                  simp only [List.getElem?_cons_zero, Option.some.injEq] at hk
                  subst hk
                  exact view_RO hw hg hle' (by rw [h1, ← hcs, getN_len]) fun ys hy => h2 σ D _ _ ys (by rw [← hcs]; exact hy)
                have hsyn := ((vm_ok hm hf hp n).1 _ _ _ _ _ hrun).1
                exact pure_step hm hf hp hrun hcl hno hw1 (.cons _ _ _ _ (R.ptr (σ := fun _ => (⟨(σ b).blk, (σ b).base + o, (σ b).tot⟩ : Loc)) (D := fun x => x < 1) 0 0 (by omega)) .nil) (off_one hsyn.nx) hw
              · cases hcs
            · cases hcs
      · cases h
    · cases h
  · cases h
end
end Go.VM

namespace Go.VM
open Go
def rz (n : Nat) (v : AV) : List AV := List.replicate n v

/-- a table, out of a list -/
noncomputable def tabOf : List (Nat × AFunc) → T (Option AFunc)
  | [] => .e
  | (i, a) :: l => (tabOf l).set none i (some a)
theorem tabOf_get {f : Nat} {a : AFunc} : ∀ {l : List (Nat × AFunc)}, (tabOf l).get none f = some a → (f, a) ∈ l
  | [], h => by simp [tabOf, T.get, getP_e] at h
  | (i, b) :: l, h => by
    rw [tabOf, get_set] at h
    by_cases e : f = i
    · rw [if_pos e] at h; simp only [Option.some.injEq] at h; subst h; subst e; simp
    · rw [if_neg e] at h; exact List.mem_cons_of_mem _ (tabOf_get h)

def FnOk (P : Program) (p : Nat × AFunc) : Prop := ∃ fn c, P.funcs[p.1]? = some fn ∧ fn.body = some c ∧ cFunc P fn = some p.2 ∧ (fn.name == "runtime.NumGoroutine") = false

theorem fnsOk_of {P : Program} {l : List (Nat × AFunc)} {t : T (Option AFunc)} {pr : Nat → Option Prim} (ht : t = tabOf l) (h : ∀ p ∈ l, FnOk P p) : FnsOk P ⟨t, pr⟩ := by
  intro f a hf
  have hf' : t.get none f = some a := hf
  rw [ht] at hf'
  exact h (f, a) (tabOf_get hf')
end Go.VM

namespace Go.VM
open Go
section
variable {P : Program} {σ : Nat → Loc} {D : Nat → Prop} {s s' : S} {w w' : World} {v : AV}

/-! what a run came to -/
noncomputable def outV (n : Nat) : RV → Option (AV × Bool)
  | .ok v s => some (v, noWs n s)
  | .no => none
theorem of_outV {n : Nat} {x : RV} (h : outV n x = some (v, true)) : ∃ s2, x = .ok v s2 ∧ noWs n s2 = true := by
  cases x with
  | no => cases h
  | ok u s2 =>
    simp only [outV, Option.some.injEq, Prod.mk.injEq] at h
    exact ⟨s2, by rw [h.1], h.2⟩

/-! values that fit a pattern -/
mutual
def fits : AV → AV → Bool
  | .rng k l h => fun v => match v with
    | .int k' n => kEq k k' && (ile l n && ile n h)
    | .rng k' l' h' => kEq k k' && (ile l l' && ile h' h)
    | _ => false
  | .int k n => fun v => match v with
    | .int k' n' => kEq k k' && ieq n n'
    | _ => false
  | .agg ps => fun v => match v with
    | .agg vs => fitsL ps vs
    | _ => false
  | _ => fun _ => false
def fitsL : List AV → List AV → Bool
  | [] => fun l => match l with
    | [] => true
    | _ :: _ => false
  | p :: ps => fun l => match l with
    | [] => false
    | v :: vs => match fits p v with
      | true => fitsL ps vs
      | false => false
end

mutual
theorem fits_R {σ' : Nat → Loc} {D' : Nat → Prop} : ∀ {p v : AV} {y : Value}, fits p v = true → R σ D v y → R σ' D' p y
  | .rng k l h, v, y, hf, hr => by
    simp only [fits] at hf
    split at hf
    · rename_i k' n
      simp only [Bool.and_eq_true, ile_iff] at hf
      cases hr
      rw [kEq_iff hf.1]
      exact .rng _ _ _ _ hf.2.1 hf.2.2
    · rename_i k' l' h'
      simp only [Bool.and_eq_true, ile_iff] at hf
      cases hr with
      | rng _ _ _ n h1 h2 =>
        rw [kEq_iff hf.1]
        exact .rng _ _ _ _ (Int.le_trans hf.2.1 h1) (Int.le_trans h2 hf.2.2)
    · cases hf
  | .int k n, v, y, hf, hr => by
    simp only [fits] at hf
    split at hf
    · rename_i k' n'
      simp only [Bool.and_eq_true] at hf
      cases hr
      rw [kEq_iff hf.1, (ieq_iff _ _).1 hf.2]
      exact .int _ _
    · cases hf
  | .agg ps, v, y, hf, hr => by
    simp only [fits] at hf
    split at hf
    · rename_i vs
      cases hr with
      | agg _ l h => exact .agg _ _ (fitsL_R hf h)
    · cases hf
  | .top, _, _, hf, _ => by simp [fits] at hf
  | .bool _, _, _, hf, _ => by simp [fits] at hf
  | .str _, _, _, hf, _ => by simp [fits] at hf
  | .ptr .., _, _, hf, _ => by simp [fits] at hf
  | .nil, _, _, hf, _ => by simp [fits] at hf
  | .sl .., _, _, hf, _ => by simp [fits] at hf
  | .slo .., _, _, hf, _ => by simp [fits] at hf
  | .snil, _, _, hf, _ => by simp [fits] at hf
  | .sle, _, _, hf, _ => by simp [fits] at hf
  | .map _, _, _, hf, _ => by simp [fits] at hf
  | .mnil, _, _, hf, _ => by simp [fits] at hf
  | .fn .., _, _, hf, _ => by simp [fits] at hf
  | .yld _, _, _, hf, _ => by simp [fits] at hf
  | .fnil, _, _, hf, _ => by simp [fits] at hf
  | .ifc .., _, _, hf, _ => by simp [fits] at hf
  | .inil, _, _, hf, _ => by simp [fits] at hf
  | .tup _, _, _, hf, _ => by simp [fits] at hf
theorem fitsL_R {σ' : Nat → Loc} {D' : Nat → Prop} : ∀ {p v : List AV} {y : List Value}, fitsL p v = true → Rs σ D v y → Rs σ' D' p y
  | [], [], _, _, hr => by cases hr; exact .nil
  | [], _ :: _, _, hf, _ => by simp [fitsL] at hf
  | _ :: _, [], _, hf, _ => by simp [fitsL] at hf
  | p :: ps, v :: vs, y, hf, hr => by
    cases hr with
    | cons _ y _ m h1 h2 =>
      simp only [fitsL] at hf
      split at hf
      · rename_i hk; exact .cons _ _ _ _ (fits_R hk h1) (fitsL_R hf h2)
      · cases hf
end

theorem fitsL_len : ∀ {p v : List AV}, fitsL p v = true → p.length = v.length
  | [], [], _ => rfl
  | [], _ :: _, hf => by simp [fitsL] at hf
  | _ :: _, [], hf => by simp [fitsL] at hf
  | p :: ps, v :: vs, hf => by
    simp only [fitsL] at hf
    split at hf
    · rw [List.length_cons, List.length_cons, fitsL_len hf]
    · cases hf

/-- a function of values without names -/
def pPat (pats : List AV) (v : AV) : Prim := fun a s => match fitsL pats a with
  | true => .ok v s
  | false => .no

theorem pPat_ok {E : Env} (hm : P.follows .mixedOrders = true) (hf : FnsOk P E) (hp : PrimsOk P E) {n f : Nat} {pats : List AV} {u : AV} (hrun : outV 0 ((vm E n).call f pats s0) = some (u, true)) (hcl : closed u = true)
    {args : List AV} (h : pPat pats u args s = .ok v s') : Syn s s' ∧ ∀ σ D w l, RW P σ D s w → Rs σ D args l → Off D s.nx s'.nx → Called P f l w (Aft P σ D s w v s') := by
  unfold pPat at h
  split at h
  · rename_i hfit
    simp only [RV.ok.injEq] at h
    obtain ⟨rfl, rfl⟩ := h
    obtain ⟨s2, hr, _⟩ := of_outV hrun
    exact ⟨Syn.refl _, fun σ D w l hw hl _ => pure_call hm hf hp hr hcl (fitsL_R hfit hl) hw⟩
  · cases h

/-! a block of a sum: it writes its state whole -/
noncomputable def resB (n : Nat) : RV → Option (AV × List Nat × Option (List AV))
  | .ok v s => match s.get 0 with
    | .cells c m _ _ => some (v, below n s.ws, some (getN c m 0))
    | _ => none
  | .no => none
theorem of_resB {n : Nat} {x : RV} {ws : List Nat} {cs : List AV} (h : resB n x = some (v, ws, some cs)) : ∃ s2 c m e p, x = .ok v s2 ∧ below n s2.ws = ws ∧ s2.get 0 = .cells c m e p ∧ getN c m 0 = cs := by
  cases x with
  | no => cases h
  | ok u s2 =>
    simp only [resB] at h
    split at h
    · rename_i c m e p hg
      simp only [Option.some.injEq, Prod.mk.injEq] at h
      exact ⟨s2, c, m, e, p, by rw [h.1], h.2.1, hg, h.2.2⟩
    · cases h

/-- a run whose name 0 is the whole of an object b, and that writes no other older one, as a step of every state -/
theorem write_step {E : Env} (hm : P.follows .mixedOrders = true) (hf : FnsOk P E) (hp : PrimsOk P E) {n f b m elem : Nat} {a0 : List AV} {vs : List (List AV)} {cs : List AV} {ct : T AV} {p : Bool}
    (h : resB vs.length ((vm E n).call f a0 (sV vs)) = some (v, [0], some cs)) (hcl : closed v = true) (hcs : closeds cs = true) (hlen : cs.length = m) (hg : s.get b = .cells ct m elem p)
    {σ1 : Nat → Loc} {l : List Value} (hw1 : RW P σ1 (fun x => x < vs.length) (sV vs) w) (h0 : σ1 0 = σ b) (hl : Rs σ1 (fun x => x < vs.length) a0 l) (hw : RW P σ D s w) :
    Called P f l w (Aft P σ D s w v (s.upd b (.cells (ofList cs) m elem p))) := by
  obtain ⟨s2, c2, m2, e2, p2, hrun, hws, hg2, hcs2⟩ := of_resB h
  obtain ⟨hsyn, hcall⟩ := (vm_ok hm hf hp n).1 _ _ _ _ _ hrun
  refine Called.mono ?_ (hcall σ1 _ w l hw1 hl (fun x hx => .inl hx))
  rintro y w' ⟨σ2, hst, hy⟩
  have hvis : s.get b ≠ .non := by rw [hg]; simp
  have hother : ∀ k, k < w.heap.size → k ≠ (σ b).blk → w'.heap[k]? = w.heap[k]? := by
    intro k hk hne
    refine hst.frame k hk fun x hx hv he => hne ?_
    have hx0 : x ∈ below vs.length s2.ws := (below_mem _ _ _).2 ⟨hx, hw1.lt x hv⟩
    rw [hws] at hx0
    simp only [List.mem_cons, List.not_mem_nil, or_false] at hx0
    subst hx0
    rw [← he, h0]
  have hvs0 : 0 < vs.length := by
    have : (0 : Nat) ∈ below vs.length s2.ws := by rw [hws]; simp
    exact ((below_mem _ _ _).1 this).2
  have hσ20 : σ2 0 = σ b := by rw [hst.ext 0 hvs0, h0]
  have ho2 := hst.rw'.obj 0 (by rw [hg2]; simp)
  rw [hg2, hσ20] at ho2
  obtain ⟨C, el, lo, hi, k1, k2, k3, k4, k5, k6⟩ := ho2
  obtain ⟨_, _, _, _, _, _, _, _, _, q6⟩ := hw.cells hg
  have hm2 : m2 = m := by rw [← hlen, ← hcs2, getN_len]
  subst hm2
  have ho : RO P σ D (.cells (ofList cs) m2 elem p) (σ b) w' := by
    refine ⟨C, el, lo, hi, k1, k2, k3, fun i hi => ?_, k5, q6⟩
    obtain ⟨z, hz, hr⟩ := k4 i hi
    refine ⟨z, hz, ?_⟩
    have e1 : gt (ofList cs) i = cs.getD i (.tup []) := gt_ofList (by omega)
    have e2 : cs.getD i (.tup []) = gt c2 i := by
      rw [← hcs2, List.getD_eq_getElem?_getD, getN_get _ _ _ _ hi]; simp
    rw [e1, e2]
    refine closed_R ?_ hr
    rw [← e2]
    have : ∀ {l : List AV} {i : Nat}, closeds l = true → i < l.length → closed (l.getD i (.tup [])) = true := by
      intro l
      induction l with
      | nil => intro i _ h; simp at h
      | cons x l ih =>
        intro i hc hi
        simp only [closeds, Bool.and_eq_true] at hc
        cases i with
        | zero => simpa using hc.1
        | succ i => simpa using ih hc.2 (by simpa using hi)
    exact this hcs (by omega)
  refine ⟨σ, ⟨fun _ _ => rfl, ?_, hst.size, hst.os, hst.tape, hst.output, fun k hk hn => hother k hk fun e => hn b ((upd_ws _ _ _ _).2 (.inl rfl)) hvis e.symm, fun x hx => .inl ?_⟩, closed_R hcl hy⟩
  · have base : RW P σ D (s.upd b (.cells (ofList cs) m2 elem p)) w' := by
      have hv : ∀ x, (s.upd b (.cells (ofList cs) m2 elem p)).get x ≠ .non → s.get x ≠ .non := fun x hx => by
        rw [upd_get s b x _ hvis] at hx
        by_cases e : x = b
        · rw [e]; exact hvis
        · rw [if_neg e] at hx; exact hx
      refine ⟨fun x hx => hw.dom x (hv x hx), fun x hx => by rw [upd_nx]; exact hw.lt x (hv x hx), fun x hx => ?_, fun x z hx hz => hw.inj x z (hv x hx) (hv z hz)⟩
      rw [upd_get s b x _ hvis]
      by_cases e : x = b
      · subst e; rw [if_pos rfl]; exact ho
      · rw [if_neg e]
        have hx' := hv x hx
        exact (hw.obj x hx').mono (fun _ _ => rfl) (fun _ h => h) (hother _ ((hw.obj x hx').lt hx') fun eb => e (hw.inj x b hx' hvis eb))
    exact base.congrD fun _ => by rw [upd_nx]; exact Up.self.symm
  · rw [upd_get s b x _ hvis] at hx
    by_cases e : x = b
    · rw [e]; exact hvis
    · rw [if_neg e] at hx; exact hx
end
end Go.VM

