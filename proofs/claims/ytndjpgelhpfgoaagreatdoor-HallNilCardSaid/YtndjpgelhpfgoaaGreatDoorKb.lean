/-
  Part of the proof by an abstract machine (KKey KXd KXa KXb KXc KX KXe): what each theorem says stands at it; it asks what its own hypotheses say.
-/
import Derived.Test.YtndjpgelhpfgoaaGreatDoorKa
namespace Go.VM
open Go
set_option maxRecDepth 100000
noncomputable def prims4 (f : Nat) : Option Prim := match Nat.beq f 68 with
  | true => some (pSlice goU)
  | false => match Nat.beq f 118 with
    | true => some (pPat patPublic dg)
    | false => none
noncomputable def E4 : Env := ⟨fnsK, prims4⟩
theorem E4_fns : FnsOk Go.Proofs.Tryz.prog E4 := fnsK_ok _
theorem E4_prims : PrimsOk Go.Proofs.Tryz.prog E4 := by
  intro f p hp args s v s' h
  have hp' : prims4 f = some p := hp
  unfold prims4 at hp'
  split at hp'
  · rename_i hf
    have hf' := Nat.eq_of_beq_eq_true hf
    subst hf'
    simp only [Option.some.injEq] at hp'
    subst hp'
    exact pSlice_ok goU_ok h
  · split at hp'
    · rename_i hf
      have hf' := Nat.eq_of_beq_eq_true hf
      subst hf'
      simp only [Option.some.injEq] at hp'
      subst hp'
      exact pPat_ok (E := E3) mixed_ok E3_fns E3_prims kPublic dg_closed h
    · cases hp'

def iz : AV := .int .i64 (.ofNat 0)
def patNew : List AV := [dg, iz]
def keyL (lb : Nat) : List AV := uB 32 ++ [iz, .slo lb 0 1 32, iz]
/-- what keys.New hands back: the key's name, its leaves' -/
noncomputable def outK : RV → Option (AV × List AV × AV × Bool × List AV × Bool × Bool)
  | .ok (.tup [.ptr k o, e]) s => match s.get k with
    | .cells c m _ opn => match gt c 33 with
      | .slo lb lo n z => match s.get lb with
        | .cells c2 m2 _ _ => some (e, getN c 33 0, gt c 34, opn, getN c2 32 0, Nat.beq m 35 && (Nat.ble 32 m2 && Nat.beq o 0), Nat.beq lo 0 && (Nat.beq n 1 && (Nat.beq z 32 && !(Nat.beq k lb))))
        | _ => none
      | _ => none
    | _ => none
  | _ => none
theorem kNew : outK ((vm E4 100000).call 58 patNew s0) = some (iz, uB 32 ++ [iz], iz, false, uB 32, true, true) := by kernel_rfl

theorem of_outK {x : RV} (h : outK x = some (iz, uB 32 ++ [iz], iz, false, uB 32, true, true)) : ∃ k lb s2 c el c2 m2 el2 p2, x = .ok (.tup [.ptr k 0, iz]) s2 ∧ s2.get k = .cells c 35 el false ∧ s2.get lb = .cells c2 m2 el2 p2 ∧
    getN c 33 0 = uB 32 ++ [iz] ∧ gt c 33 = .slo lb 0 1 32 ∧ gt c 34 = iz ∧ getN c2 32 0 = uB 32 ∧ 32 ≤ m2 ∧ k ≠ lb := by
  unfold outK at h
  split at h
  · rename_i k o e s2
    split at h
    · rename_i c m el opn hg
      split at h
      · rename_i lb lo n z hs
        split at h
        · rename_i c2 m2 el2 p2 hg2
          simp only [Option.some.injEq, Prod.mk.injEq, Bool.and_eq_true, Bool.not_eq_true'] at h
          obtain ⟨rfl, h1, h2, rfl, h3, ⟨h4, h5, h6⟩, h7, h8, h9, h10⟩ := h
          have := Nat.eq_of_beq_eq_true h4; subst this
          have := Nat.eq_of_beq_eq_true h6; subst this
          have := Nat.eq_of_beq_eq_true h7; subst this
          have := Nat.eq_of_beq_eq_true h8; subst this
          have := Nat.eq_of_beq_eq_true h9; subst this
          rw [Nat.ble_eq] at h5
          exact ⟨k, lb, s2, c, el, c2, m2, el2, p2, rfl, hg, hg2, h1, hs, h2, h3, h5, fun e => by rw [e, Nat.beq_refl] at h10; cases h10⟩
        · cases h
      · cases h
    · cases h
  · cases h

section
variable {P : Program} {σ σ1 : Nat → Loc} {D : Nat → Prop} {s s1 s' : S} {w w' : World} {v : AV}

/-- a block that the world has made gets a name -/
theorem Stp.adopt {o : AObj} {ℓ : Loc} (hsyn : s.nx ≤ s1.nx) (h : Stp P σ D s w σ1 s1 w') (hnD : ¬ D s1.nx) (hlo : w.heap.size ≤ ℓ.blk) (hfr : ∀ x, s1.get x ≠ .non → (σ1 x).blk ≠ ℓ.blk)
    (ho : RO P (upF σ1 s1.nx ℓ) (Up D s.nx (Nat.succ s1.nx)) o ℓ w') : Stp P σ D s w (upF σ1 s1.nx ℓ) (newS s1 o) w' := by
  have hn : ¬ Up D s.nx s1.nx s1.nx := fun h => h.elim hnD fun h => by omega
  have hup : ∀ x, Up D s.nx s1.nx x → Up D s.nx (Nat.succ s1.nx) x := fun x hx => hx.imp id fun h => ⟨h.1, by omega⟩
  have hext : Ext (Up D s.nx s1.nx) σ1 (upF σ1 s1.nx ℓ) := upF_ext hn
  have hself : upF σ1 s1.nx ℓ s1.nx = ℓ := by unfold upF; rw [if_pos rfl]
  have hne : ∀ x, x ≠ s1.nx → upF σ1 s1.nx ℓ x = σ1 x := fun x hx => by unfold upF; rw [if_neg hx]
  have hv : ∀ x, (newS s1 o).get x ≠ .non → x ≠ s1.nx → s1.get x ≠ .non ∧ (newS s1 o).get x = s1.get x := fun x hx hxn => by
    rw [new_get, if_neg hxn] at hx ⊢; exact ⟨hx, rfl⟩
  have hw1 := h.rw'
  refine ⟨fun x hx => ?_, ⟨fun x hx => ?_, fun x hx => ?_, fun x hx => ?_, fun x y hx hy he => ?_⟩, h.size, h.os, h.tape, h.output, fun b hb hn => h.frame b hb hn, fun x hx => ?_⟩
  · rw [hne x (fun e => hnD (e ▸ hx))]; exact h.ext x hx
  · show Up D s.nx (Nat.succ s1.nx) x
    by_cases e : x = s1.nx
    · subst e; exact .inr ⟨hsyn, Nat.lt_succ_self _⟩
    · exact hup x (hw1.dom x (hv x hx e).1)
  · show x < Nat.succ s1.nx
    by_cases e : x = s1.nx
    · omega
    · have := hw1.lt x (hv x hx e).1; omega
  · by_cases e : x = s1.nx
    · subst e
      rw [new_get, if_pos rfl] at hx ⊢
      by_cases hh : hidden s1.nx s1.hid = true
      · rw [if_pos hh] at hx; exact absurd rfl hx
      · rw [if_neg hh, hself]; exact ho
    · obtain ⟨h1, h2⟩ := hv x hx e
      rw [h2, hne x e]
      exact (hw1.obj x h1).mono hext hup rfl
  · by_cases e : x = s1.nx <;> by_cases e' : y = s1.nx
    · rw [e, e']
    · rw [e, hself, hne y e'] at he
      exact absurd he.symm (hfr y (hv y hy e').1)
    · rw [e', hself, hne x e] at he
      exact absurd he (hfr x (hv x hx e).1)
    · rw [hne x e, hne y e'] at he
      exact hw1.inj x y (hv x hx e).1 (hv y hy e').1 he
  · by_cases e : x = s1.nx
    · subst e
      exact .inr ⟨hsyn, .inl (by rw [hself]; exact hlo)⟩
    · rw [hne x e]
      exact h.own x (hv x hx e).1

theorem new_nx (s : S) (o : AObj) : (newS s o).nx = Nat.succ s.nx := rfl

/-- keys.New of one leaf -/
noncomputable def pKey : Prim := fun a s => match fitsL patNew a with
  | true => .ok (.tup [.ptr (Nat.succ s.nx) 0, iz]) (newS (newS s (.cells (ofList (uB 32)) (uB 32).length 33 true)) (.cells (ofList (keyL s.nx)) (keyL s.nx).length 0 false))
  | false => .no

theorem uB_get {n i : Nat} (h : i < n) : (uB n)[i]? = some (full .u8) := by unfold uB; rw [List.getElem?_replicate, if_pos h]
theorem keyL_len (n : Nat) : (keyL n).length = 35 := by simp [keyL, uB]
theorem keyL_get (n i : Nat) (h : i < 35) : (keyL n).getD i (.tup []) = if i = 33 then .slo n 0 1 32 else if i < 32 then full .u8 else iz := by
  simp only [keyL, uB, List.getD_eq_getElem?_getD]
  by_cases h1 : i < 32
  · rw [List.getElem?_append_left (by simpa using h1), List.getElem?_replicate, if_pos h1, if_neg (by omega), if_pos h1]; rfl
  · rw [List.getElem?_append_right (by simp; omega)]
    simp only [List.length_replicate]
    rcases (by omega : i = 32 ∨ i = 33 ∨ i = 34) with rfl | rfl | rfl <;> rfl

theorem pKey_ok {args : List AV} (h : pKey args s = .ok v s') : Syn s s' ∧ ∀ σ D w l, RW Go.Proofs.Tryz.prog σ D s w → Rs σ D args l → Off D s.nx s'.nx → Called Go.Proofs.Tryz.prog 58 l w (Aft Go.Proofs.Tryz.prog σ D s w v s') := by
  unfold pKey at h
  split at h
  · rename_i hfit
    simp only [RV.ok.injEq] at h
    obtain ⟨rfl, rfl⟩ := h
    refine ⟨(new_syn _ _).trans (new_syn _ _), fun σ D w l hw hl hoff => ?_⟩
    obtain ⟨k, lb, s2, c, el, c2, m2, el2, p2, hrun, hgk, hgl, hc, hsl, h34, hc2, hm2, hkl⟩ := of_outK kNew
    refine Called.mono ?_ (((vm_ok mixed_ok E4_fns E4_prims 100000).1 _ _ _ _ _ hrun).2 (fun _ => ⟨0, 0, 0⟩) (fun _ => False) w l (s0_rw _ _) (fitsL_R hfit hl) (fun _ h => h.elim))
    rintro y w' ⟨σ2, hst, hy⟩
    have hleft : Left w w' := ⟨hst.size, fun b hb => hst.frame b hb fun x _ hx => absurd (s0_get x) hx, hst.os, hst.tape, hst.output⟩
    have hnxs : (newS (newS s (.cells (ofList (uB 32)) (uB 32).length 33 true)) (.cells (ofList (keyL s.nx)) (keyL s.nx).length 0 false)).nx = s.nx + 2 := rfl
    rw [hnxs] at hoff
    have hD0 : ¬ D s.nx := fun h => by rcases hoff _ h with h | h <;> omega
    have hD1 : ¬ D (s.nx + 1) := fun h => by rcases hoff _ h with h | h <;> omega
    have hnew : ∀ x, s2.get x ≠ .non → w.heap.size ≤ (σ2 x).blk := fun x hx => by
      rcases hst.own x hx with h | ⟨_, h | ⟨z, _, hz, _⟩⟩
      · exact absurd (s0_get x) h
      · exact h
      · exact absurd (s0_get z) hz
    have hvk : s2.get k ≠ .non := by rw [hgk]; simp
    have hvl : s2.get lb ≠ .non := by rw [hgl]; simp
    obtain ⟨Ck, elk, lok, hik, k1, k2, k3, k4, k5, k6⟩ := hst.rw'.cells hgk
    obtain ⟨Cl, ell, lol, hil, l1, l2, l3, l4, l5, l6⟩ := hst.rw'.cells hgl
    -- the leaves
    have st1 : Stp Go.Proofs.Tryz.prog σ D s w (upF σ s.nx (σ2 lb)) (newS s (.cells (ofList (uB 32)) (uB 32).length 33 true)) w' := by
      refine Stp.adopt (Nat.le_refl _) (Stp.of_left hw hleft) hD0 (hnew lb hvl) (fun x hx => ?_) ?_
      · have h1 := (hw.obj x hx).lt hx
        have h2 := hnew lb hvl
        omega
      · refine ⟨Cl, ell, lol, hil, l1, l2, by simp [uB]; omega, fun i hi => ?_, l5, fun h => by cases h⟩
        have hi' : i < 32 := by simpa [uB] using hi
        obtain ⟨z, hz, hr⟩ := l4 i (by omega)
        refine ⟨z, hz, ?_⟩
        have e1 : gt c2 i = full .u8 := by
          have := getN_get 32 0 c2 i hi'
          rw [hc2, Nat.zero_add, uB_get hi'] at this
          exact (Option.some.inj this).symm
        rw [gt_ofList hi]
        have e2 : (uB 32).getD i (.tup []) = full .u8 := by rw [List.getD_eq_getElem?_getD, uB_get hi']; rfl
        rw [e2]
        rw [e1] at hr
        exact closed_R rfl hr
    have hσl : upF σ s.nx (σ2 lb) s.nx = σ2 lb := by unfold upF; rw [if_pos rfl]
    -- the key
    have st2 : Stp Go.Proofs.Tryz.prog σ D s w (upF (upF σ s.nx (σ2 lb)) (s.nx + 1) (σ2 k)) (newS (newS s (.cells (ofList (uB 32)) (uB 32).length 33 true)) (.cells (ofList (keyL s.nx)) (keyL s.nx).length 0 false)) w' := by
      refine Stp.adopt (s1 := newS s (.cells (ofList (uB 32)) (uB 32).length 33 true)) (Nat.le_succ _) st1 hD1 (hnew k hvk) (fun x hx => ?_) ?_
      · rw [new_get] at hx
        by_cases e : x = s.nx
        · subst e
          rw [hσl]
          exact fun e => hkl (hst.rw'.inj lb k hvl hvk e).symm
        · rw [if_neg e] at hx
          have h1 := (hw.obj x hx).lt hx
          have h2 := hnew k hvk
          unfold upF
          rw [if_neg e]; omega
      · refine ⟨Ck, elk, lok, hik, k1, k2, by rw [keyL_len]; exact k3, fun i hi => ?_, k5, fun _ => k6 rfl⟩
        rw [keyL_len] at hi
        obtain ⟨z, hz, hr⟩ := k4 i hi
        refine ⟨z, hz, ?_⟩
        rw [gt_ofList (by rw [keyL_len]; exact hi), keyL_get _ _ hi]
        have hgi : gt c i = if i = 33 then .slo lb 0 1 32 else if i < 32 then full .u8 else iz := by
          by_cases h33 : i = 33
          · subst h33; rw [if_pos rfl]; exact hsl
          · rw [if_neg h33]
            by_cases h34' : i = 34
            · subst h34'; rw [if_neg (by omega)]; exact h34
            · have hi33 : i < 33 := by omega
              have := getN_get 33 0 c i hi33
              rw [hc, Nat.zero_add] at this
              by_cases h32 : i < 32
              · rw [if_pos h32]
                rw [List.getElem?_append_left (by simpa [uB] using h32), uB_get h32] at this
                exact (Option.some.inj this).symm
              · have : i = 32 := by omega
                subst this
                rw [if_neg h32]
                rename_i this
                rw [List.getElem?_append_right (by simp [uB])] at this
                have e : (32 : Nat) - (uB 32).length = 0 := by simp [uB]
                rw [e] at this
                exact (Option.some.inj this).symm
        rw [hgi] at hr
        by_cases h33 : i = 33
        · rw [if_pos h33] at hr ⊢
          cases hr with
          | slo _ _ _ _ cap hD h1 h2 =>
            have hx : upF (upF σ s.nx (σ2 lb)) (s.nx + 1) (σ2 k) s.nx = σ2 lb := by unfold upF; rw [if_neg (by omega), if_pos rfl]
            have := R.slo (σ := upF (upF σ s.nx (σ2 lb)) (s.nx + 1) (σ2 k)) (D := Up D s.nx (s.nx + 2)) s.nx 0 1 32 cap (.inr ⟨Nat.le_refl _, by omega⟩) h1 (by rw [hx]; exact h2)
            rw [hx] at this
            exact this
        · rw [if_neg h33] at hr ⊢
          refine closed_R ?_ hr
          split <;> rfl
    refine ⟨_, st2, ?_⟩
    cases hy with
    | tup _ l' hl' =>
      cases hl' with
      | cons _ y1 _ m1 hx1 hl'' => cases hl'' with
        | cons _ y2 _ m2' hx2 hl3 =>
          cases hl3
          cases hx1
          refine .tup _ _ (.cons _ _ _ _ ?_ (.cons _ _ _ _ (closed_R rfl hx2) .nil))
          have hx : upF (upF σ s.nx (σ2 lb)) (s.nx + 1) (σ2 k) (s.nx + 1) = σ2 k := by unfold upF; rw [if_pos rfl]
          have := R.ptr (σ := upF (upF σ s.nx (σ2 lb)) (s.nx + 1) (σ2 k)) (D := Up D s.nx (s.nx + 2)) (s.nx + 1) 0 (.inr ⟨by omega, by omega⟩)
          rw [hx] at this
          exact this
  · cases h
end
end Go.VM

namespace Go.VM
open Go
set_option maxRecDepth 100000
def b8 (n : Nat) : AV := .int .u8 (.ofNat n)
/-- the sums of "x" and of nothing -/
def dgX : AV := .agg [.int .u8 (.ofNat 45), .int .u8 (.ofNat 113), .int .u8 (.ofNat 22), .int .u8 (.ofNat 66), .int .u8 (.ofNat 183), .int .u8 (.ofNat 38), .int .u8 (.ofNat 176), .int .u8 (.ofNat 68), .int .u8 (.ofNat 1), .int .u8 (.ofNat 98), .int .u8 (.ofNat 124), .int .u8 (.ofNat 169), .int .u8 (.ofNat 251), .int .u8 (.ofNat 172), .int .u8 (.ofNat 50), .int .u8 (.ofNat 245), .int .u8 (.ofNat 200), .int .u8 (.ofNat 83), .int .u8 (.ofNat 15), .int .u8 (.ofNat 177), .int .u8 (.ofNat 144), .int .u8 (.ofNat 60), .int .u8 (.ofNat 196), .int .u8 (.ofNat 219), .int .u8 (.ofNat 2), .int .u8 (.ofNat 37), .int .u8 (.ofNat 135), .int .u8 (.ofNat 23), .int .u8 (.ofNat 146), .int .u8 (.ofNat 26), .int .u8 (.ofNat 72), .int .u8 (.ofNat 129)]
def dgE : AV := .agg [.int .u8 (.ofNat 227), .int .u8 (.ofNat 176), .int .u8 (.ofNat 196), .int .u8 (.ofNat 66), .int .u8 (.ofNat 152), .int .u8 (.ofNat 252), .int .u8 (.ofNat 28), .int .u8 (.ofNat 20), .int .u8 (.ofNat 154), .int .u8 (.ofNat 251), .int .u8 (.ofNat 244), .int .u8 (.ofNat 200), .int .u8 (.ofNat 153), .int .u8 (.ofNat 111), .int .u8 (.ofNat 185), .int .u8 (.ofNat 36), .int .u8 (.ofNat 39), .int .u8 (.ofNat 174), .int .u8 (.ofNat 65), .int .u8 (.ofNat 228), .int .u8 (.ofNat 100), .int .u8 (.ofNat 155), .int .u8 (.ofNat 147), .int .u8 (.ofNat 76), .int .u8 (.ofNat 164), .int .u8 (.ofNat 149), .int .u8 (.ofNat 153), .int .u8 (.ofNat 27), .int .u8 (.ofNat 120), .int .u8 (.ofNat 82), .int .u8 (.ofNat 184), .int .u8 (.ofNat 85)]
def hI : List AV := [.int .u32 (.ofNat 1779033703), .int .u32 (.ofNat 3144134277), .int .u32 (.ofNat 1013904242), .int .u32 (.ofNat 2773480762), .int .u32 (.ofNat 1359893119), .int .u32 (.ofNat 2600822924), .int .u32 (.ofNat 528734635), .int .u32 (.ofNat 1541459225)]
def stX : List AV := hI ++ [.int .u64 (.ofNat 1), b8 120] ++ List.replicate 63 (b8 0)
def stE : List AV := hI ++ [.int .u64 (.ofNat 0)] ++ List.replicate 64 (b8 0)
def goX (cs : List AV) : Option AV := match fitsL [b8 120] cs with
  | true => some dgX
  | false => none
def goSt (cs : List AV) : Option AV := match fitsL stX cs with
  | true => some dgX
  | false => match fitsL stE cs with
    | true => some dgE
    | false => none
end Go.VM

namespace Go.VM
open Go
set_option maxRecDepth 100000
theorem kxa : outV 1 ((vm EK0 100000).call 68 [.slo 0 0 1 1] (sV [[b8 120]])) = some (dgX, true) := by kernel_rfl
end Go.VM

namespace Go.VM
open Go
set_option maxRecDepth 100000
theorem kxb : outV 1 ((vm EK0 100000).call 138 [.ptr 0 0] (sV [stX])) = some (dgX, true) := by kernel_rfl
end Go.VM

namespace Go.VM
open Go
set_option maxRecDepth 100000
theorem kxc : outV 1 ((vm EK0 100000).call 138 [.ptr 0 0] (sV [stE])) = some (dgE, true) := by kernel_rfl
end Go.VM

namespace Go.VM
open Go
set_option maxRecDepth 100000
theorem goX_ok : GoOk Go.Proofs.Tryz.prog 68 (fun n => .slo 0 0 n 1) goX := by
  refine ⟨fun cs v h => ?_⟩
  unfold goX at h
  split at h
  · rename_i hfit
    simp only [Option.some.injEq] at h
    subst h
    obtain ⟨s2, h1, h2⟩ := of_outV kxa
    exact ⟨[b8 120], fitsL_len hfit, fun σ D σ1 D1 ys hy => fitsL_R hfit hy, EK0, 100000, s2, mixed_ok, EK0_fns, EK0_prims, h1, by kernel_rfl, h2⟩
  · cases h
theorem goSt_ok : GoOk Go.Proofs.Tryz.prog 138 (fun _ => .ptr 0 0) goSt := by
  refine ⟨fun cs v h => ?_⟩
  unfold goSt at h
  split at h
  · rename_i hfit
    simp only [Option.some.injEq] at h
    subst h
    obtain ⟨s2, h1, h2⟩ := of_outV kxb
    exact ⟨stX, fitsL_len hfit, fun σ D σ1 D1 ys hy => fitsL_R hfit hy, EK0, 100000, s2, mixed_ok, EK0_fns, EK0_prims, h1, by kernel_rfl, h2⟩
  · split at h
    · rename_i hfit
      simp only [Option.some.injEq] at h
      subst h
      obtain ⟨s2, h1, h2⟩ := of_outV kxc
      exact ⟨stE, fitsL_len hfit, fun σ D σ1 D1 ys hy => fitsL_R hfit hy, EK0, 100000, s2, mixed_ok, EK0_fns, EK0_prims, h1, by kernel_rfl, h2⟩
    · cases h
end Go.VM

namespace Go.VM
open Go
set_option maxRecDepth 100000
theorem kxe : outV 0 ((vm EK0 100000).call 68 [.snil] s0) = some (dgE, true) := by kernel_rfl
end Go.VM

