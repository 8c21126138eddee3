/-
  Part of the proof by an abstract machine (Split LM0): what each theorem says stands at it; it asks what its own hypotheses say.
-/
import Derived.Test.YtndjpgelhpfgoaaGreatDoorLb
namespace Go.VM
open Go
section
variable {P : Program} {σ : Nat → Loc} {D : Nat → Prop} {s s' s1 : S} {w w' w0 : World} {v : AV} {a : Act} {tm tm1 : T AV}

/-- a state that began in a world w0, of which it sees nothing -/
structure St (P : Program) (w0 : World) (σ : Nat → Loc) (D : Nat → Prop) (s : S) (w : World) : Prop where
  rw' : RW P σ D s w
  lt : ∀ x, D x → x < s.nx
  fresh : ∀ x, s.get x ≠ .non → w0.heap.size ≤ (σ x).blk
  left : Left w0 w

theorem St.start (P : Program) (σ : Nat → Loc) (w : World) : St P w σ (fun _ => False) s0 w :=
  ⟨s0_rw _ _, fun _ h => h.elim, fun x h => absurd (s0_get x) h, ⟨Nat.le_refl _, fun _ _ => rfl, rfl, rfl, rfl⟩⟩

theorem St.step {σ' : Nat → Loc} (h : St P w0 σ D s w) (hsyn : s.nx ≤ s'.nx) (hst : Stp P σ D s w σ' s' w') : St P w0 σ' (Up D s.nx s'.nx) s' w' := by
  refine ⟨hst.rw', fun x hx => hx.elim (fun h' => Nat.lt_of_lt_of_le (h.lt x h') hsyn) fun h' => h'.2, fun x hx => ?_, ⟨Nat.le_trans h.left.size hst.size, fun b hb => ?_, hst.os.trans h.left.os, hst.tape.trans h.left.tape, hst.output.trans h.left.output⟩⟩
  · rcases hst.own x hx with h1 | ⟨_, h1 | ⟨y, _, h2, h3⟩⟩
    · rw [hst.ext x (h.rw'.dom x h1)]; exact h.fresh x h1
    · exact Nat.le_trans h.left.size h1
    · rw [h3]; exact h.fresh y h2
  · rw [hst.frame b (Nat.lt_of_lt_of_le hb h.left.size) fun x _ hv e => ?_]
    · exact h.left.heap b hb
    · have := h.fresh x hv; omega

/-- a value that lies in a range is one of it -/
theorem Rt.split {t : Nat} {k : IntKind} {lo hi : Int} {tmps : Array Value} (h : Rt σ D tm tmps) (ht : gt tm t = .rng k lo hi) : ∃ n, lo ≤ n ∧ n ≤ hi ∧ Rt σ D (st tm t (.int k n)) tmps := by
  have h1 := h t
  rw [ht] at h1
  generalize hv : tmps.getD t undef = q at h1
  cases h1 with
  | rng _ _ _ n h2 h3 =>
    refine ⟨n, h2, h3, fun j => ?_⟩
    rw [gt_st]
    by_cases e : j = t
    · subst e; rw [if_pos rfl, hv]; exact .int _ _
    · rw [if_neg e]; exact h j

/-- the first statements of a row of them -/
noncomputable def segs (r : Rec) : Nat → ACode → T AV → S → Option (ACode × T AV × S)
  | 0, c, tm, s => some (c, tm, s)
  | k + 1, c, tm, s => match c with
    | .seq x y => match execF r x tm s with
      | .norm tm1 s1 => segs r k y tm1 s1
      | _ => none
    | _ => none

def Ex (P : Program) (r : Rec) : Prop := ∀ (c : Code) (tm : T AV) (s : S), execF r (cCode P c) tm s ≠ .no → Runs P c tm s (execF r (cCode P c) tm s)

theorem cCode_seq {c : Code} {x y : ACode} (h : cCode P c = .seq x y) : ∃ p q, c = .seq p q ∧ x = cCode P p ∧ y = cCode P q := by
  cases c with
  | seq p q => simp only [cCode, ACode.seq.injEq] at h; exact ⟨p, q, rfl, h.1.symm, h.2.symm⟩
  | region id ops draw =>
    simp only [cCode] at h
    split at h
    · cases h
    · split at h <;> cases h
  | _ => simp [cCode] at h

/-- how a function's body is to end: slot t holds true -/
def EndT (w0 : World) (t n h0 : Nat) (e : Exit) (a' : Act) (w' : World) : Prop := e = .ret ∧ a'.tmps.getD t undef = .bool true ∧ Left w0 w' ∧ a'.tmps.size = n ∧ Marks h0 a'.defers w'

theorem segs_ok {r : Rec} (hx : Ex P r) {Q : Exit → Act → World → Prop} : ∀ (k : Nat) (c : Code) (tm : T AV) (s : S) (c' : ACode) (tm1 : T AV) (s1 : S), segs r k (cCode P c) tm s = some (c', tm1, s1) → ∃ q, c' = cCode P q ∧
    ∀ (σ : Nat → Loc) (D : Nat → Prop) (a : Act) (w : World) (h0 : Nat), St P w0 σ D s w → Rt σ D tm a.tmps → dOk a.tmps.size (cCode P c) = true → Marks h0 a.defers w → h0 ≤ w.heap.size →
      (∀ σ' D' a' w', St P w0 σ' D' s1 w' → Rt σ' D' tm1 a'.tmps → a'.tmps.size = a.tmps.size → dOk a'.tmps.size (cCode P q) = true → Marks h0 a'.defers w' → h0 ≤ w'.heap.size → q.wpIn (Fn none) 0 P Q a' w') → c.wpIn (Fn none) 0 P Q a w
  | 0, c, tm, s, c', tm1, s1, h => by
    simp only [segs, Option.some.injEq, Prod.mk.injEq] at h
    obtain ⟨rfl, rfl, rfl⟩ := h
    exact ⟨c, rfl, fun σ D a w h0 hs ht hd hm hh hq => hq σ D a w hs ht rfl hd hm hh⟩
  | k + 1, c, tm, s, c', tm1, s1, h => by
    simp only [segs] at h
    split at h
    · rename_i x y hc
      obtain ⟨p, q, rfl, rfl, rfl⟩ := cCode_seq hc
      split at h
      · rename_i tm2 s2 he
        obtain ⟨q', hq', hrest⟩ := segs_ok hx (Q := Q) k q tm2 s2 c' tm1 s1 h
        refine ⟨q', hq', fun σ D a w h0 hs ht hd hm hh hq => ?_⟩
        have hne : execF r (cCode P p) tm s ≠ .no := by rw [he]; simp
        obtain ⟨hsyn, hrun⟩ := hx p tm s hne
        rw [he] at hsyn hrun
        have hsy := hsyn _ _ _ (.norm _ _)
        simp only [cCode, dOk, Bool.and_eq_true] at hd
        refine wpIn_seq (wpIn_mono (hrun none σ D a w h0 hs.rw' ht hd.1 hm hh (fun h => absurd rfl h) (fun e' t' u' h' => by cases h'; exact fun x hx => .inl (hs.lt x hx))) ?_)
        rintro e a1 w1 ⟨tm', s', σ1, hX, hst, ht1, hn1, hm1⟩
        cases hX
        refine hrest σ1 _ a1 w1 h0 (hs.step hsy.nx hst) ht1 (by rw [hn1]; exact hd.2) hm1 (Nat.le_trans hh hst.size) fun σ' D' a' w' k1 k2 k3 k4 k5 k6 => ?_
        exact hq σ' D' a' w' k1 k2 (by rw [k3, hn1]) k4 k5 k6
      · cases h
    · cases h

/-- a code that returns true in a slot -/
noncomputable def retT (t : Nat) : RX → Bool
  | .ret tm _ => match gt tm t with
    | .bool b => b
    | _ => false
  | _ => false

theorem retT_ok {r : Rec} (hx : Ex P r) {c : Code} {t : Nat} (h : retT t (execF r (cCode P c) tm s) = true) {h0 : Nat} (hs : St P w0 σ D s w) (ht : Rt σ D tm a.tmps) (hd : dOk a.tmps.size (cCode P c) = true) (hm : Marks h0 a.defers w) (hh : h0 ≤ w.heap.size) :
    c.wpIn (Fn none) 0 P (EndT w0 t a.tmps.size h0) a w := by
  have hne : execF r (cCode P c) tm s ≠ .no := fun e => by rw [e] at h; cases h
  obtain ⟨hsyn, hrun⟩ := hx c tm s hne
  cases he : execF r (cCode P c) tm s with
  | ret tm1 s1 =>
    rw [he] at h hsyn hrun
    have hsy := hsyn _ _ _ (.ret _ _)
    refine wpIn_mono (hrun none σ D a w h0 hs.rw' ht hd hm hh (fun h => absurd rfl h) (fun e' t' u' h' => by cases h'; exact fun x hx => .inl (hs.lt x hx))) ?_
    rintro e a1 w1 ⟨tm', s', σ1, hX, hst, ht1, hn1, hm1⟩
    cases hX
    refine ⟨rfl, ?_, (hs.step hsy.nx hst).left, hn1, hm1⟩
    simp only [retT] at h
    split at h
    · rename_i b hb
      have := ht1 t
      rw [hb, h] at this
      exact bool_of this
    · cases h
  | no => rw [he] at h; cases h
  | norm tm1 s1 => rw [he] at h; cases h
  | exit i tm1 s1 => rw [he] at h; cases h

theorem ex_of {E : Env} (hm : P.follows .mixedOrders = true) (hf : FnsOk P E) (hp : PrimsOk P E) (n : Nat) : Ex P (vm E n) := by
  obtain ⟨hc, hr, hl⟩ := vm_ok hm hf hp n
  have hsr := vm_syn (prims_syn hp) n
  exact execF_ok hc hr (draw_ok hm hc hr hsr) (xRange_ok hc hsr) hl

/-- a function whose one result is slot t: it returns true -/
theorem calls_of_end {f t : Nat} {fn : Func} {c : Code} {args : Array Value} {w : World} (hfn : P.funcs[f]? = some fn) (hb : fn.body = some c) (hres : fn.results = #[.tmp t])
    (h : c.wpIn (Fn none) 0 P (EndT w t (args ++ Array.replicate (fn.ntmps - args.size) undef).size w.heap.size) { tmps := args ++ Array.replicate (fn.ntmps - args.size) undef, defers := [] } w) :
    Calls P f args w (fun e w' => e = .returned (.bool true) ∧ Left w w') := by
  have : CallsIn Fence.wide 0 P f args w (fun e w' => e = .returned (.bool true) ∧ Left w w') := by
    refine callsIn_of_wp_marks hfn hb trivial ?_
    refine wpIn_mono h ?_
    rintro e a' w' ⟨rfl, h1, h2, h3, rs, h4, h5, h6⟩
    show LeavesInM Fence.wide 0 P fn a'.tmps _ a'.defers .returning w'
    rw [h4]
    -- the marks
    have key : ∀ (rs : List Nat) (w' : World), rs.Nodup → (∀ r ∈ rs, w.heap.size ≤ r ∧ w'.heap[r]? = some (.deferred (some []))) → Left w w' →
        LeavesInM Fence.wide 0 P fn a'.tmps (fun e w' => e = .returned (.bool true) ∧ Left w w') (rs.map fun r => { target := .collected r, args := #[] }) .returning w' := by
      intro rs
      induction rs with
      | nil =>
        intro w' _ _ hl
        refine ⟨.bool true, ?_, rfl, hl⟩
        have hg : a'.tmps.getD t undef = .bool true := h1
        rw [Array.getD_eq_getD_getElem?] at hg
        simp [results, hres, Sem.run_bind]
        exact hg
      | cons r rs ih =>
        intro w' hnd hr hl
        have hr1 := hr r (by simp)
        refine ⟨by simp, .inl ⟨r, _, rfl, run_take hr1.2, ?_⟩⟩
        refine ih _ (List.nodup_cons.1 hnd).2 (fun q hq => ?_) ⟨by simpa using hl.size, fun b hb => ?_, hl.os, hl.tape, hl.output⟩
        · have := hr q (by simp [hq])
          refine ⟨this.1, ?_⟩
          show (w'.heap.setIfInBounds r _)[q]? = _
          rw [Array.getElem?_setIfInBounds, if_neg (fun e => (List.nodup_cons.1 hnd).1 (by rw [e]; exact hq))]
          exact this.2
        · show (w'.heap.setIfInBounds r _)[b]? = _
          rw [Array.getElem?_setIfInBounds, if_neg (by omega)]
          exact hl.heap b hb
    exact key rs w' h5 h6 h2
  exact callsIn_wide.1 this
end
end Go.VM

namespace Go.VM
open Go
set_option maxRecDepth 100000
theorem kAwM : outV 0 ((vm EC 100000).call 8 [] s0) = some (.bool true, true) := by kernel_rfl
noncomputable def primsM (f : Nat) : Option Prim := if Nat.beq f 8 = true then some (pPat [] (.bool true)) else primsC f
noncomputable def EM : Env := ⟨fnsL, primsM⟩
theorem EM_fns : FnsOk Go.Proofs.Tryz.prog EM := fnsL_ok _
theorem EM_prims : PrimsOk Go.Proofs.Tryz.prog EM := by
  intro f p hp args s v s' h
  have hp' : primsM f = some p := hp
  unfold primsM at hp'
  split at hp'
  · rename_i hf
    have hf' := Nat.eq_of_beq_eq_true hf
    subst hf'
    simp only [Option.some.injEq] at hp'
    subst hp'
    exact pPat_ok (E := EC) mixed_ok EC_fns EC_prims kAwM rfl h
  · exact EC_prims f p hp' args s v s' h
/-- from a number on, so many -/
noncomputable def allF (p : Nat → Bool) : Nat → Nat → Bool
  | 0, _ => true
  | n + 1, i => match p i with
    | true => allF p n (Nat.succ i)
    | false => false
theorem allF_all {p : Nat → Bool} : ∀ {n i : Nat}, allF p n i = true → ∀ k, i ≤ k → k < i + n → p k = true
  | 0, i, _, k, h1, h2 => by omega
  | n + 1, i, h, k, h1, h2 => by
    simp only [allF] at h
    split at h
    · rename_i hp
      by_cases e : k = i
      · rw [e]; exact hp
      · exact allF_all h k (by omega) (by omega)
    · cases h
/-- the run of TurnsMany: up to the choice, then every choice -/
noncomputable def tailM (c : ACode) (tm : T AV) (s : S) (v : Nat) : Bool := retT 2 (execF (vm EM 100000) c (st tm 13 (.int .i64 (.ofNat v))) s)
noncomputable def chkM (i n : Nat) : Option (ACode × T AV × S) → Bool
  | some (c, tm, s) => match gt tm 13 with
    | .rng .i64 lo hi => ile (.ofNat 1) lo && (ile hi (.ofNat 64) && allF (tailM c tm s) n i)
    | _ => false
  | none => false
end Go.VM

