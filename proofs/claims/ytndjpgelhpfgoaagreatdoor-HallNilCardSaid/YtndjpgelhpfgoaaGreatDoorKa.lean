/-
  Part of the proof by an abstract machine (EnvK KEnv KB64 KB2176 KB2145 KBlk KE1 KS33 KS38 KS39 KS2145 KE2): what each theorem says stands at it; it asks what its own hypotheses say.
-/
import Derived.Test.YtndjpgelhpfgoaaGreatDoorFnsK
import Derived.Test.YtndjpgelhpfgoaaGreatDoorVi
namespace Go.VM
open Go
set_option maxRecDepth 100000
noncomputable def fnsK : T (Option AFunc) := (.n none (.n none (.n none (.n none (.n none .e (.n none (.n none (.n none (.n (some a271) .e .e) .e) .e) .e)) (.n none (.n none (.n none .e (.n (some a199) .e .e)) .e) .e)) (.n none (.n none (.n none .e (.n none .e (.n (some a227) .e .e))) (.n none (.n none (.n (some a147) .e .e) .e) .e)) .e)) (.n none (.n none .e (.n none (.n none (.n none (.n (some a137) .e .e) .e) .e) .e)) (.n none (.n none (.n none (.n none .e (.n (some a197) .e .e)) (.n none (.n none (.n (some a293) .e .e) .e) .e)) (.n none .e (.n (some a117) .e .e))) .e))) (.n none (.n none (.n none .e (.n none (.n none (.n none (.n (some a136) .e .e) .e) .e) .e)) (.n none (.n none (.n none (.n (some a68) .e (.n (some a196) .e .e)) (.n none .e (.n (some a228) .e .e))) .e) .e)) (.n none (.n none (.n none (.n none (.n none .e (.n none (.n (some a322) .e .e) .e)) .e) .e) (.n none (.n none (.n none (.n (some a138) .e .e) .e) .e) (.n (some a58) .e .e))) (.n none (.n none (.n none (.n none .e (.n (some a198) .e .e)) .e) (.n none .e (.n (some a118) .e .e))) .e))))
def fnsKL : List (Nat × AFunc) := [(58, a58), (68, a68), (117, a117), (118, a118), (136, a136), (137, a137), (138, a138), (147, a147), (196, a196), (197, a197), (198, a198), (199, a199), (227, a227), (228, a228), (271, a271), (293, a293), (322, a322)]
theorem fnsK_tab : fnsK = tabOf fnsKL := by kernel_rfl
theorem fnsK_fn : ∀ p ∈ fnsKL, FnOk Go.Proofs.Tryz.prog p := by
  intro p hp
  simp only [fnsKL, List.mem_cons, List.not_mem_nil, or_false] at hp
  rcases hp with rfl | rfl | rfl | rfl | rfl | rfl | rfl | rfl | rfl | rfl | rfl | rfl | rfl | rfl | rfl | rfl | rfl
  · exact c58
  · exact c68
  · exact c117
  · exact c118
  · exact c136
  · exact c137
  · exact c138
  · exact c147
  · exact c196
  · exact c197
  · exact c198
  · exact c199
  · exact c227
  · exact c228
  · exact c271
  · exact c293
  · exact c322
theorem fnsK_ok (pr : Nat → Option Prim) : FnsOk Go.Proofs.Tryz.prog ⟨fnsK, pr⟩ := fnsOk_of fnsK_tab fnsK_fn

def noPrims : Nat → Option Prim := fun _ => none
theorem noPrims_ok (t : T (Option AFunc)) : PrimsOk Go.Proofs.Tryz.prog ⟨t, noPrims⟩ := fun f p h => by cases h
theorem mixed_ok : Go.Proofs.Tryz.prog.follows .mixedOrders = true := by kernel_rfl

/-! blocks of a sum, of bytes that are not known -/
def uB (n : Nat) : List AV := List.replicate n (full .u8)
def uW (n : Nat) : List AV := List.replicate n (full .u32)
/-- a state whose count is known -/
def stV (n : Nat) : List AV := uW 8 ++ [.int .u64 (.ofNat n)] ++ uB 64
def isOk : RV → Bool
  | .ok _ _ => true
  | .no => false
end Go.VM

namespace Go.VM
open Go
set_option maxRecDepth 100000
noncomputable def EK0 : Env := ⟨fnsK, noPrims⟩
theorem EK0_fns : FnsOk Go.Proofs.Tryz.prog EK0 := fnsK_ok _
theorem EK0_prims : PrimsOk Go.Proofs.Tryz.prog EK0 := noPrims_ok _
end Go.VM

namespace Go.VM
open Go
set_option maxRecDepth 100000
theorem kb64 : resB 2 ((vm EK0 100000).call 228 [.ptr 0 0, .sl 0 9 64 64, .ptr 1 0] (sV [stV 64, uW 64])) = some (.tup [], [0], some (stV 64)) := by kernel_rfl
end Go.VM

namespace Go.VM
open Go
set_option maxRecDepth 100000
theorem kb2176 : resB 2 ((vm EK0 100000).call 228 [.ptr 0 0, .sl 0 9 64 64, .ptr 1 0] (sV [stV 2176, uW 64])) = some (.tup [], [0], some (stV 2176)) := by kernel_rfl
end Go.VM

namespace Go.VM
open Go
set_option maxRecDepth 100000
theorem kb2145 : resB 3 ((vm EK0 100000).call 228 [.ptr 0 0, .slo 2 0 64 1, .ptr 1 0] (sV [stV 2145, uW 64, uB 64])) = some (.tup [], [0], some (stV 2145)) := by kernel_rfl
end Go.VM

namespace Go.VM
open Go
section
variable {P : Program} {σ : Nat → Loc} {D : Nat → Prop} {s s' : S} {w w' : World} {v : AV}

/-- the part of an older object that a slice views -/
theorem slArg_view {x : AV} {cs : List AV} (h : slArg s x = some cs) : ∃ b o m elem ct p n, blkOf x = [b] ∧ s.get b = .cells ct m elem p ∧ o + n ≤ m ∧ cs = getN ct n o ∧
    ∀ (P : Program) (σ : Nat → Loc) (D : Nat → Prop) (w : World) (y : Value), RW P σ D s w → R σ D x y → ∀ (σ1 : Nat → Loc) (D1 : Nat → Prop) (k : Nat), σ1 k = ⟨(σ b).blk, (σ b).base + o, (σ b).tot⟩ → D1 k → R σ1 D1 (.slo k 0 n 1) y := by
  unfold slArg at h
  split at h
  · rename_i b o n c
    split at h
    · rename_i ct m elem p hg
      split at h
      · rename_i hc
        simp only [Option.some.injEq] at h
        rw [Bool.and_eq_true, Nat.ble_eq, Nat.ble_eq] at hc
        have hc2 : o + c ≤ m := hc.2
        refine ⟨b, o, m, elem, ct, p, n, rfl, hg, by omega, h.symm, fun P σ D w y hw hx σ1 D1 k hk hD1 => ?_⟩
        cases hx with
        | sl _ _ _ _ hD =>
          obtain ⟨C, el, lo, hi, h1, h2, h3, h4, h5, _⟩ := hw.cells hg
          have := R.slo (σ := σ1) (D := D1) k 0 n 1 c hD1 hc.1 (by rw [hk]; simp only; omega)
          rw [hk] at this
          exact this
      · cases h
    · cases h
  · rename_i b o n e
    split at h
    · rename_i he
      have he' := Nat.eq_of_beq_eq_true he
      subst he'
      split at h
      · rename_i ct m elem p hg
        split at h
        · rename_i hc
          simp only [Option.some.injEq] at h
          rw [Nat.ble_eq] at hc
          have hc' : o + n ≤ m := hc
          refine ⟨b, o, m, elem, ct, p, n, rfl, hg, hc', h.symm, fun P σ D w y hw hx σ1 D1 k hk hD1 => ?_⟩
          cases hx with
          | slo _ _ _ _ cap hD h1 h2 =>
            have := R.slo (σ := σ1) (D := D1) k 0 n 1 cap hD1 h1 (by rw [hk]; simp only; omega)
            rw [hk] at this
            exact this
        · cases h
      · cases h
    · cases h
  · cases h

/-- a block of a sum: its state's count is known -/
noncomputable def pBlk (own sep : Nat → Bool) : Prim := fun a s => match a with
  | [.ptr b o, p, .ptr kb ko] => match Nat.beq o 0 with
    | false => .no
    | true => match s.get b with
      | .cells ct m elem opn => match gt ct 8 with
        | .int .u64 (.ofNat n) => match Nat.beq m 73 && fitsL (stV n) (getN ct 73 0) with
          | false => .no
          | true => match loadN s kb ko 64 with
            | none => .no
            | some kk => match fitsL (uW 64) kk && !(Nat.beq kb b) with
              | false => .no
              | true => match p with
                | .sl pb po pn pc => match Nat.beq pb b with
                  | true => match own n && (Nat.beq po 9 && (Nat.beq pn 64 && Nat.beq pc 64)) with
                    | true => .ok (.tup []) (s.upd b (.cells (ofList (stV n)) m elem opn))
                    | false => .no
                  | false => match slArg s (.sl pb po pn pc) with
                    | none => .no
                    | some cs => match sep n && (fitsL (uB 64) cs && !(Nat.beq pb kb)) with
                      | true => .ok (.tup []) (s.upd b (.cells (ofList (stV n)) m elem opn))
                      | false => .no
                | .slo pb po pn pe => match slArg s (.slo pb po pn pe) with
                  | none => .no
                  | some cs => match sep n && (fitsL (uB 64) cs && (!(Nat.beq pb kb) && !(Nat.beq pb b))) with
                    | true => .ok (.tup []) (s.upd b (.cells (ofList (stV n)) m elem opn))
                    | false => .no
                | _ => .no
        | _ => .no
      | _ => .no
  | _ => .no

theorem closeds_rep {n : Nat} {v : AV} (h : closed v = true) : closeds (List.replicate n v) = true := by
  induction n with
  | zero => rfl
  | succ n ih => rw [List.replicate_succ]; simp [closeds, h, ih]
theorem closeds_append : ∀ {l m : List AV}, closeds l = true → closeds m = true → closeds (l ++ m) = true
  | [], _, _, h => h
  | x :: l, m, h1, h2 => by
    simp only [closeds, Bool.and_eq_true] at h1
    simp only [List.cons_append, closeds, Bool.and_eq_true]
    exact ⟨h1.1, closeds_append h1.2 h2⟩
theorem stV_closed (n : Nat) : closeds (stV n) = true := closeds_append (closeds_append (closeds_rep rfl) rfl) (closeds_rep rfl)
theorem stV_len (n : Nat) : (stV n).length = 73 := by simp [stV, uW, uB]

theorem add_loc (ℓ : Loc) : (⟨ℓ.blk, ℓ.base + 0, ℓ.tot⟩ : Loc) = ℓ := by cases ℓ; rfl

theorem pBlk_own {E : Env} (hm : P.follows .mixedOrders = true) (hf : FnsOk P E) (hp : PrimsOk P E) {fu f n : Nat} (hrun : resB 2 ((vm E fu).call f [.ptr 0 0, .sl 0 9 64 64, .ptr 1 0] (sV [stV n, uW 64])) = some (.tup [], [0], some (stV n)))
    {b kb ko elem : Nat} {ct : T AV} {opn : Bool} {kk : List AV} (hg : s.get b = .cells ct 73 elem opn) (hfit : fitsL (stV n) (getN ct 73 0) = true) (hk : loadN s kb ko 64 = some kk) (hkk : fitsL (uW 64) kk = true) (hne : kb ≠ b)
    {l : List Value} (hw : RW P σ D s w) (hl : Rs σ D [.ptr b 0, .sl b 9 64 64, .ptr kb ko] l) : Called P f l w (Aft P σ D s w (.tup []) (s.upd b (.cells (ofList (stV n)) 73 elem opn))) := by
  have hvb : s.get b ≠ .non := by rw [hg]; simp
  unfold loadN at hk
  split at hk
  · rename_i kct km kel kp hkg
    split at hk
    · rename_i hle
      simp only [Option.some.injEq] at hk
      rw [Nat.ble_eq] at hle
      have hle' : ko + 64 ≤ km := hle
      have hvk : s.get kb ≠ .non := by rw [hkg]; simp
      let σ1 : Nat → Loc := fun k => if k = 0 then σ b else ⟨(σ kb).blk, (σ kb).base + ko, (σ kb).tot⟩
      have hw1 : RW P σ1 (fun x => x < [stV n, uW 64].length) (sV [stV n, uW 64]) w := by
        refine sV_rw (fun k v hk' => ?_) (fun j k hj hk' he => ?_)
        · have hk2 := (List.getElem?_eq_some_iff.1 hk').1
          simp only [List.length_cons, List.length_nil] at hk2
          rcases (by omega : k = 0 ∨ k = 1) with rfl | rfl
          · simp only [List.getElem?_cons_zero, Option.some.injEq] at hk'
            subst hk'
            have := view_RO (P := P) (o := 0) (n := 73) (σ1 := σ1) (D1 := fun x => x < [stV n, uW 64].length) hw hg (by omega) (bs := stV n) (stV_len n) (fun ys hy => fitsL_R hfit hy)
            rw [add_loc] at this
            exact this
          · simp only [List.getElem?_cons_succ, List.getElem?_cons_zero, Option.some.injEq] at hk'
            subst hk'
            exact view_RO (P := P) (o := ko) (n := 64) hw hkg hle' (by simp [uW]) (fun ys hy => fitsL_R hkk (by rw [← hk]; exact hy))
        · simp only [List.length_cons, List.length_nil] at hj hk'
          have hbb : (σ b).blk ≠ (σ kb).blk := fun e => hne (hw.inj b kb hvb hvk e).symm
          rcases (by omega : j = 0 ∨ j = 1) with rfl | rfl <;> rcases (by omega : k = 0 ∨ k = 1) with rfl | rfl
          · rfl
          · simp [σ1] at he; exact absurd he hbb
          · simp [σ1] at he; exact absurd he.symm hbb
          · rfl
      refine write_step hm hf hp hrun rfl (stV_closed n) (stV_len n) hg hw1 rfl ?_ hw
      cases hl with
      | cons _ y1 _ m1 hx1 hl => cases hl with
        | cons _ y2 _ m2 hx2 hl => cases hl with
          | cons _ y3 _ m3 hx3 hl =>
            cases hl; cases hx1; cases hx2; cases hx3
            refine .cons _ _ _ _ (R.ptr (σ := σ1) 0 0 (by simp)) (.cons _ _ _ _ (R.sl (σ := σ1) 0 9 64 64 (by simp)) (.cons _ _ _ _ ?_ .nil))
            exact R.ptr (σ := σ1) (D := fun x => x < [stV n, uW 64].length) 1 0 (by simp)
    · cases hk
  · cases hk

theorem pBlk_sep {E : Env} (hm : P.follows .mixedOrders = true) (hf : FnsOk P E) (hp : PrimsOk P E) {fu f n : Nat} (hrun : resB 3 ((vm E fu).call f [.ptr 0 0, .slo 2 0 64 1, .ptr 1 0] (sV [stV n, uW 64, uB 64])) = some (.tup [], [0], some (stV n)))
    {b kb ko elem : Nat} {ct : T AV} {opn : Bool} {kk cs : List AV} {p : AV} (hg : s.get b = .cells ct 73 elem opn) (hfit : fitsL (stV n) (getN ct 73 0) = true) (hk : loadN s kb ko 64 = some kk) (hkk : fitsL (uW 64) kk = true) (hne : kb ≠ b)
    (hsl : slArg s p = some cs) (hcs : fitsL (uB 64) cs = true) (hpb : ∀ pb, blkOf p = [pb] → pb ≠ b ∧ pb ≠ kb)
    {l : List Value} (hw : RW P σ D s w) (hl : Rs σ D [.ptr b 0, p, .ptr kb ko] l) : Called P f l w (Aft P σ D s w (.tup []) (s.upd b (.cells (ofList (stV n)) 73 elem opn))) := by
  have hvb : s.get b ≠ .non := by rw [hg]; simp
  obtain ⟨pb, po, pm, pel, pct, pp, pn, hbk, hpg, hple, hpcs, hpR⟩ := slArg_view hsl
  obtain ⟨hpb1, hpb2⟩ := hpb pb hbk
  have hvp : s.get pb ≠ .non := by rw [hpg]; simp
  have hpn : pn = 64 := by
    have h1 := fitsL_len hcs
    rw [hpcs, getN_len] at h1
    simpa [uB] using h1.symm
  subst hpn
  unfold loadN at hk
  split at hk
  · rename_i kct km kel kp hkg
    split at hk
    · rename_i hle
      simp only [Option.some.injEq] at hk
      rw [Nat.ble_eq] at hle
      have hle' : ko + 64 ≤ km := hle
      have hvk : s.get kb ≠ .non := by rw [hkg]; simp
      let σ1 : Nat → Loc := fun k => if k = 0 then σ b else if k = 1 then ⟨(σ kb).blk, (σ kb).base + ko, (σ kb).tot⟩ else ⟨(σ pb).blk, (σ pb).base + po, (σ pb).tot⟩
      have hw1 : RW P σ1 (fun x => x < [stV n, uW 64, uB 64].length) (sV [stV n, uW 64, uB 64]) w := by
        refine sV_rw (fun k v hk' => ?_) (fun j k hj hk' he => ?_)
        · have hk2 := (List.getElem?_eq_some_iff.1 hk').1
          simp only [List.length_cons, List.length_nil] at hk2
          rcases (by omega : k = 0 ∨ k = 1 ∨ k = 2) with rfl | rfl | rfl
          · simp only [List.getElem?_cons_zero, Option.some.injEq] at hk'
            subst hk'
            have := view_RO (P := P) (o := 0) (n := 73) (σ1 := σ1) (D1 := fun x => x < [stV n, uW 64, uB 64].length) hw hg (by omega) (bs := stV n) (stV_len n) (fun ys hy => fitsL_R hfit hy)
            rw [add_loc] at this
            exact this
          · simp only [List.getElem?_cons_succ, List.getElem?_cons_zero, Option.some.injEq] at hk'
            subst hk'
            exact view_RO (P := P) (o := ko) (n := 64) hw hkg hle' (by simp [uW]) (fun ys hy => fitsL_R hkk (by rw [← hk]; exact hy))
          · simp only [List.getElem?_cons_succ, List.getElem?_cons_zero, Option.some.injEq] at hk'
            subst hk'
            exact view_RO (P := P) (o := po) (n := 64) hw hpg hple (by simp [uB]) (fun ys hy => fitsL_R hcs (by rw [hpcs]; exact hy))
        · simp only [List.length_cons, List.length_nil] at hj hk'
          have hb1 : (σ b).blk ≠ (σ kb).blk := fun e => hne (hw.inj b kb hvb hvk e).symm
          have hb2 : (σ b).blk ≠ (σ pb).blk := fun e => hpb1 (hw.inj b pb hvb hvp e).symm
          have hb3 : (σ kb).blk ≠ (σ pb).blk := fun e => hpb2 (hw.inj kb pb hvk hvp e).symm
          rcases (by omega : j = 0 ∨ j = 1 ∨ j = 2) with rfl | rfl | rfl <;> rcases (by omega : k = 0 ∨ k = 1 ∨ k = 2) with rfl | rfl | rfl <;> first
            | rfl
            | (simp [σ1] at he; first | exact absurd he hb1 | exact absurd he.symm hb1 | exact absurd he hb2 | exact absurd he.symm hb2 | exact absurd he hb3 | exact absurd he.symm hb3)
      refine write_step hm hf hp hrun rfl (stV_closed n) (stV_len n) hg hw1 rfl ?_ hw
      cases hl with
      | cons _ y1 _ m1 hx1 hl => cases hl with
        | cons _ y2 _ m2 hx2 hl => cases hl with
          | cons _ y3 _ m3 hx3 hl =>
            cases hl; cases hx1; cases hx3
            refine .cons _ _ _ _ (R.ptr (σ := σ1) 0 0 (by simp)) (.cons _ _ _ _ (hpR P σ D w y2 hw hx2 σ1 _ 2 rfl (by simp)) (.cons _ _ _ _ ?_ .nil))
            exact R.ptr (σ := σ1) (D := fun x => x < [stV n, uW 64, uB 64].length) 1 0 (by simp)
    · cases hk
  · cases hk

theorem pBlk_ok {E : Env} (hm : P.follows .mixedOrders = true) (hf : FnsOk P E) (hp : PrimsOk P E) {fu f : Nat} {own sep : Nat → Bool}
    (hown : ∀ n, own n = true → resB 2 ((vm E fu).call f [.ptr 0 0, .sl 0 9 64 64, .ptr 1 0] (sV [stV n, uW 64])) = some (.tup [], [0], some (stV n)))
    (hsep : ∀ n, sep n = true → resB 3 ((vm E fu).call f [.ptr 0 0, .slo 2 0 64 1, .ptr 1 0] (sV [stV n, uW 64, uB 64])) = some (.tup [], [0], some (stV n)))
    {args : List AV} (h : pBlk own sep args s = .ok v s') : Syn s s' ∧ ∀ σ D w l, RW P σ D s w → Rs σ D args l → Off D s.nx s'.nx → Called P f l w (Aft P σ D s w v s') := by
  unfold pBlk at h
  split at h
  · rename_i b o p kb ko
    split at h
    · cases h
    · rename_i ho
      have ho' := Nat.eq_of_beq_eq_true ho
      subst ho'
      split at h
      · rename_i ct m elem opn hg
        split at h
        · rename_i n hn
          split at h
          · cases h
          · rename_i hfit
            rw [Bool.and_eq_true] at hfit
            have hm' := Nat.eq_of_beq_eq_true hfit.1
            subst hm'
            split at h
            · cases h
            · rename_i kk hk
              split at h
              · cases h
              · rename_i hkk
                rw [Bool.and_eq_true, Bool.not_eq_true'] at hkk
                have hne : kb ≠ b := fun e => by rw [e, Nat.beq_refl] at hkk; simp at hkk
                have hsyn : Syn s (s.upd b (.cells (ofList (stV n)) 73 elem opn)) := upd_syn s b _ (by rw [hg]; simp)
                have nb : ∀ {x y : Nat}, (!Nat.beq x y) = true → x ≠ y := fun h e => by rw [e, Nat.beq_refl] at h; simp at h
                split at h
                · rename_i pb po pn pc
                  split at h
                  · rename_i hpb
                    have hpb' := Nat.eq_of_beq_eq_true hpb
                    subst hpb'
                    split at h
                    · rename_i hc
                      simp only [Bool.and_eq_true] at hc
                      obtain ⟨h1, h2, h3, h4⟩ := hc
                      have := Nat.eq_of_beq_eq_true h2; subst this
                      have := Nat.eq_of_beq_eq_true h3; subst this
                      have := Nat.eq_of_beq_eq_true h4; subst this
                      simp only [RV.ok.injEq] at h
                      obtain ⟨rfl, rfl⟩ := h
                      exact ⟨hsyn, fun σ D w l hw hl _ => pBlk_own hm hf hp (hown n h1) hg hfit.2 hk hkk.1 hne hw hl⟩
                    · cases h
                  · rename_i hpb
                    split at h
                    · cases h
                    · rename_i cs hcs
                      split at h
                      · rename_i hc
                        simp only [Bool.and_eq_true] at hc
                        obtain ⟨h1, h2, h3⟩ := hc
                        simp only [RV.ok.injEq] at h
                        obtain ⟨rfl, rfl⟩ := h
                        refine ⟨hsyn, fun σ D w l hw hl _ => pBlk_sep hm hf hp (hsep n h1) hg hfit.2 hk hkk.1 hne hcs h2 (fun q hq => ?_) hw hl⟩
                        simp only [blkOf, List.cons.injEq, and_true] at hq
                        subst hq
                        exact ⟨fun e => by (rw [e, Nat.beq_refl] at hpb; cases hpb), nb h3⟩
                      · cases h
                · rename_i pb po pn pe
                  split at h
                  · cases h
                  · rename_i cs hcs
                    split at h
                    · rename_i hc
                      simp only [Bool.and_eq_true] at hc
                      obtain ⟨h1, h2, h3, h4⟩ := hc
                      simp only [RV.ok.injEq] at h
                      obtain ⟨rfl, rfl⟩ := h
                      refine ⟨hsyn, fun σ D w l hw hl _ => pBlk_sep hm hf hp (hsep n h1) hg hfit.2 hk hkk.1 hne hcs h2 (fun q hq => ?_) hw hl⟩
                      simp only [blkOf, List.cons.injEq, and_true] at hq
                      subst hq
                      exact ⟨nb h4, nb h3⟩
                    · cases h
                · cases h
        · cases h
      · cases h
  · cases h
end
end Go.VM

namespace Go.VM
open Go
set_option maxRecDepth 100000
def own1 (n : Nat) : Bool := Nat.beq n 64 || Nat.beq n 2176
def sep1 (n : Nat) : Bool := Nat.beq n 2145
noncomputable def prims1 (f : Nat) : Option Prim := match Nat.beq f 228 with
  | true => some (pBlk own1 sep1)
  | false => none
noncomputable def E1 : Env := ⟨fnsK, prims1⟩
theorem E1_prims : PrimsOk Go.Proofs.Tryz.prog E1 := by
  intro f p hp args s v s' h
  have hp' : prims1 f = some p := hp
  unfold prims1 at hp'
  split at hp'
  · rename_i hf
    have hf' := Nat.eq_of_beq_eq_true hf
    subst hf'
    simp only [Option.some.injEq] at hp'
    subst hp'
    refine pBlk_ok (E := EK0) mixed_ok EK0_fns EK0_prims (fu := 100000) (fun n hn => ?_) (fun n hn => ?_) h
    · unfold own1 at hn
      rw [Bool.or_eq_true] at hn
      rcases hn with hn | hn
      · rw [Nat.eq_of_beq_eq_true hn]; exact kb64
      · rw [Nat.eq_of_beq_eq_true hn]; exact kb2176
    · rw [Nat.eq_of_beq_eq_true hn]; exact kb2145
  · cases hp'
theorem E1_fns : FnsOk Go.Proofs.Tryz.prog E1 := fnsK_ok _
/-- 32 bytes that are not known -/
def dg : AV := .agg (uB 32)
end Go.VM

namespace Go.VM
open Go
set_option maxRecDepth 100000
theorem ks33 : outV 1 ((vm E1 100000).call 68 [.slo 0 0 33 1] (sV [uB 33])) = some (dg, true) := by kernel_rfl
end Go.VM

namespace Go.VM
open Go
set_option maxRecDepth 100000
theorem ks38 : outV 1 ((vm E1 100000).call 68 [.slo 0 0 38 1] (sV [uB 38])) = some (dg, true) := by kernel_rfl
end Go.VM

namespace Go.VM
open Go
set_option maxRecDepth 100000
theorem ks39 : outV 1 ((vm E1 100000).call 68 [.slo 0 0 39 1] (sV [uB 39])) = some (dg, true) := by kernel_rfl
end Go.VM

namespace Go.VM
open Go
set_option maxRecDepth 100000
theorem ks2145 : outV 1 ((vm E1 100000).call 68 [.slo 0 0 2145 1] (sV [uB 2145])) = some (dg, true) := by kernel_rfl
end Go.VM

namespace Go.VM
open Go
set_option maxRecDepth 100000
/-- the sum of bytes that are not known -/
def goU (cs : List AV) : Option AV := match fitsL (uB cs.length) cs with
  | true => match Nat.beq cs.length 33 || (Nat.beq cs.length 38 || (Nat.beq cs.length 39 || Nat.beq cs.length 2145)) with
    | true => some dg
    | false => none
  | false => none
theorem dg_closed : closed dg = true := by kernel_rfl
theorem goU_ok : GoOk Go.Proofs.Tryz.prog 68 (fun n => .slo 0 0 n 1) goU := by
  refine ⟨fun cs v h => ?_⟩
  unfold goU at h
  split at h
  · rename_i hfit
    split at h
    · rename_i hn
      simp only [Option.some.injEq] at h
      subst h
      refine ⟨uB cs.length, by simp [uB], fun σ D σ1 D1 ys hy => fitsL_R hfit hy, E1, 100000, ?_⟩
      have key : ∀ n, n = cs.length → outV 1 ((vm E1 100000).call 68 [.slo 0 0 n 1] (sV [uB n])) = some (dg, true) → ∃ s2, Go.Proofs.Tryz.prog.follows .mixedOrders = true ∧ FnsOk Go.Proofs.Tryz.prog E1 ∧ PrimsOk Go.Proofs.Tryz.prog E1 ∧
          (vm E1 100000).call 68 [.slo 0 0 (uB cs.length).length 1] (sV [uB cs.length]) = .ok dg s2 ∧ closed dg = true ∧ noWs 1 s2 = true := by
        intro n hn h
        obtain ⟨s2, h1, h2⟩ := of_outV h
        subst hn
        refine ⟨s2, mixed_ok, E1_fns, E1_prims, ?_, dg_closed, h2⟩
        have e : (uB cs.length).length = cs.length := by simp [uB]
        rw [e]; exact h1
      simp only [Bool.or_eq_true] at hn
      rcases hn with h | h | h | h
      · exact key 33 (Nat.eq_of_beq_eq_true h).symm ks33
      · exact key 38 (Nat.eq_of_beq_eq_true h).symm ks38
      · exact key 39 (Nat.eq_of_beq_eq_true h).symm ks39
      · exact key 2145 (Nat.eq_of_beq_eq_true h).symm ks2145
    · cases h
  · cases h
noncomputable def prims2 (f : Nat) : Option Prim := match Nat.beq f 68 with
  | true => some (pSlice goU)
  | false => none
noncomputable def E2 : Env := ⟨fnsK, prims2⟩
theorem E2_fns : FnsOk Go.Proofs.Tryz.prog E2 := fnsK_ok _
theorem E2_prims : PrimsOk Go.Proofs.Tryz.prog E2 := by
  intro f p hp args s v s' h
  have hp' : prims2 f = some p := hp
  unfold prims2 at hp'
  split at hp'
  · rename_i hf
    have hf' := Nat.eq_of_beq_eq_true hf
    subst hf'
    simp only [Option.some.injEq] at hp'
    subst hp'
    exact pSlice_ok goU_ok h
  · cases hp'
def patSecret : List AV := [dg, full .u32, full .u8]
def patClimb : List AV := [full .u32, full .u8, dg, .int .i64 (.ofNat 0), .int .i64 (.ofNat 15)]
def resClimb : AV := .tup [dg, .int .i64 (.ofNat 0)]
theorem kSecret : outV 0 ((vm E2 100000).call 198 patSecret s0) = some (dg, true) := by kernel_rfl
theorem kClimb : outV 0 ((vm E2 100000).call 197 patClimb s0) = some (resClimb, true) := by kernel_rfl
noncomputable def prims3 (f : Nat) : Option Prim := match Nat.beq f 68 with
  | true => some (pSlice goU)
  | false => match Nat.beq f 198 with
    | true => some (pPat patSecret dg)
    | false => match Nat.beq f 197 with
      | true => some (pPat patClimb resClimb)
      | false => none
noncomputable def E3 : Env := ⟨fnsK, prims3⟩
theorem E3_fns : FnsOk Go.Proofs.Tryz.prog E3 := fnsK_ok _
theorem E3_prims : PrimsOk Go.Proofs.Tryz.prog E3 := by
  intro f p hp args s v s' h
  have hp' : prims3 f = some p := hp
  unfold prims3 at hp'
  split at hp'
  · rename_i hf
    have hf' := Nat.eq_of_beq_eq_true hf
    subst hf'
    simp only [Option.some.injEq] at hp'
    subst hp'
    exact pSlice_ok goU_ok h
  · split at hp'
    · rename_i hf
      have hf' := Nat.eq_of_beq_eq_true hf
      subst hf'
      simp only [Option.some.injEq] at hp'
      subst hp'
      exact pPat_ok (E := E2) mixed_ok E2_fns E2_prims kSecret dg_closed h
    · split at hp'
      · rename_i hf
        have hf' := Nat.eq_of_beq_eq_true hf
        subst hf'
        simp only [Option.some.injEq] at hp'
        subst hp'
        exact pPat_ok (E := E2) mixed_ok E2_fns E2_prims kClimb (by kernel_rfl) h
      · cases hp'
def patPublic : List AV := [dg, full .u32]
theorem kPublic : outV 0 ((vm E3 100000).call 118 patPublic s0) = some (dg, true) := by kernel_rfl
end Go.VM

