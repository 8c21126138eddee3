/-
  Part of the proof by an abstract machine (PExt): what each theorem says stands at it; it asks what its own hypotheses say.
-/
import Derived.Test.YtndjpgelhpfgoaaGreatDoorPa
import Derived.Lib.Bytealg
namespace Go.VM
open Go
set_option maxRecDepth 100000
def ixOf (c : Nat) : List Nat → Nat → Int
  | [], _ => .negSucc 0
  | x :: l, i => match Nat.beq x c with
    | true => .ofNat i
    | false => ixOf c l (Nat.succ i)
def cntOf (c : Nat) : List Nat → Nat
  | [] => 0
  | x :: l => match Nat.beq x c with
    | true => Nat.succ (cntOf c l)
    | false => cntOf c l
def pIxb : Prim := fun a s => match a with
  | [.str l, .int .u8 (.ofNat c)] => match Nat.blt c 256 with
    | true => .ok (.int .i64 (ixOf c l 0)) s
    | false => .no
  | _ => .no
def pCnt : Prim := fun a s => match a with
  | [.str l, .int .u8 (.ofNat c)] => match Nat.blt c 256 with
    | true => .ok (.int .i64 (.ofNat (cntOf c l))) s
    | false => .no
  | _ => .no

theorem u8_eq {x c : Nat} (hx : x < 256) (hc : c < 256) : (UInt8.ofNat x == UInt8.ofNat c) = Nat.beq x c := by
  cases hb : Nat.beq x c with
  | true => rw [Nat.eq_of_beq_eq_true hb]; simp
  | false =>
    have hne : x ≠ c := fun e => by rw [e, Nat.beq_refl] at hb; cases hb
    rw [beq_eq_false_iff_ne]
    intro e
    have := congrArg UInt8.toNat e
    rw [UInt8.toNat_ofNat', UInt8.toNat_ofNat', Nat.mod_eq_of_lt hx, Nat.mod_eq_of_lt hc] at this
    exact hne this

theorem cnt_eq {c : Nat} (hc : c < 256) : ∀ {l : List Nat}, Byt l → Go.Lib.countByte (u8s l) (UInt8.ofNat c) = cntOf c l
  | [], _ => rfl
  | x :: l, hb => by
    have hx := hb x (by simp)
    have ih := cnt_eq hc (l := l) fun y hy => hb y (by simp [hy])
    unfold Go.Lib.countByte at ih ⊢
    simp only [u8s, List.map_cons, List.count_cons, cntOf] at ih ⊢
    rw [ih, u8_eq hx hc]
    cases Nat.beq x c <;> simp

theorem ix_eq {c : Nat} (hc : c < 256) : ∀ {l : List Nat} (i : Nat), Byt l → ixOf c l i = (if Go.Lib.indexByte (u8s l) (UInt8.ofNat c) = -1 then -1 else Go.Lib.indexByte (u8s l) (UInt8.ofNat c) + i)
  | [], i, _ => by simp [ixOf, u8s, Go.Lib.indexByte]
  | x :: l, i, hb => by
    have hx := hb x (by simp)
    have ih := ix_eq hc (l := l) (i + 1) fun y hy => hb y (by simp [hy])
    have hge := Go.Lib.indexByte_ge (u8s l) (UInt8.ofNat c)
    simp only [u8s, List.map_cons, Go.Lib.indexByte, ixOf, u8_eq hx hc] at ih hge ⊢
    cases hq : Nat.beq x c with
    | true => simp
    | false =>
      simp only [Bool.false_eq_true, if_false]
      rw [ih]
      have key : ∀ n : Int, -1 ≤ n → (if n = -1 then -1 else n + ((i + 1 : Nat) : Int)) = (if (if (n == -1) = true then -1 else n + 1) = -1 then -1 else (if (n == -1) = true then -1 else n + 1) + (i : Int)) := by
        intro n hn
        by_cases h : n = -1
        · subst h; simp
        · have : (n == -1) = false := by simpa using h
          rw [this, if_neg h]
          simp only [Bool.false_eq_true, if_false]
          rw [if_neg (by omega)]
          omega
      exact key _ hge

section
variable {σ : Nat → Loc} {D : Nat → Prop} {s s' : S} {w w' : World} {v : AV} {P : Program}

theorem extern_run {f : Nat} {fn : Func} {e : Array Value → Sem Value} {args : List Value} {y : Value} (h1 : P.funcs[f]? = some fn) (h4 : (fn.name == "runtime.NumGoroutine") = false) (h2 : fn.body.isNone = true) (h3 : (Extern.findNext fn).isNone = true)
    (h5 : Extern.find fn = some e) (hrun : (e ⟨args⟩).run P w = .ok y w) : (callFunc f ⟨args⟩).run P w = .ok (.value y) w := by
  have h4' : ¬ (fn.name = "runtime.NumGoroutine") := by simpa using h4
  have h3' : Extern.findNext fn = none := by simpa using h3
  have hb : fn.body = none := by simpa using h2
  simp [callFunc, h1, h4', hb, h3', h5]
  simp [mark, Sem.run, Sem.run_bind, hrun]

theorem pCnt_ok {args : List AV} (h : pCnt args s = .ok v s') : Syn s s' ∧ ∀ σ D w l, RW Go.Proofs.Tryz.prog σ D s w → Rs σ D args l → Off D s.nx s'.nx → Called Go.Proofs.Tryz.prog 325 l w (Aft Go.Proofs.Tryz.prog σ D s w v s') := by
  unfold pCnt at h
  split at h
  · rename_i l c
    split at h
    · rename_i hc
      rw [Nat.blt_eq] at hc
      simp only [RV.ok.injEq] at h
      obtain ⟨rfl, rfl⟩ := h
      refine ⟨Syn.refl _, fun σ D w l' hw hl _ => ?_⟩
      cases hl with
      | cons _ y1 _ m1 hx1 hl => cases hl with
        | cons _ y2 _ m2 hx2 hl =>
          cases hl; cases hx1 with
          | str _ hb =>
            cases hx2
            refine .inl ⟨_, w, extern_run Go.Proofs.Tryz.func325 (by kernel_rfl) (by kernel_rfl) (by kernel_rfl) (e := Extern.BytealgCount.count) (by kernel_rfl) (Go.Lib.run_countString _ _ _), by simp, σ, Stp.refl hw, ?_⟩
            have e1 : (enc l).data.toList = u8s l := by simp [enc, u8s]
            have e2 : (Int.ofNat c).toNat.toUInt8 = UInt8.ofNat c := rfl
            rw [e1, e2, cnt_eq hc hb]
            exact .int _ _
    · cases h
  · cases h

theorem pIxb_ok {args : List AV} (h : pIxb args s = .ok v s') : Syn s s' ∧ ∀ σ D w l, RW Go.Proofs.Tryz.prog σ D s w → Rs σ D args l → Off D s.nx s'.nx → Called Go.Proofs.Tryz.prog 328 l w (Aft Go.Proofs.Tryz.prog σ D s w v s') := by
  unfold pIxb at h
  split at h
  · rename_i l c
    split at h
    · rename_i hc
      rw [Nat.blt_eq] at hc
      simp only [RV.ok.injEq] at h
      obtain ⟨rfl, rfl⟩ := h
      refine ⟨Syn.refl _, fun σ D w l' hw hl _ => ?_⟩
      cases hl with
      | cons _ y1 _ m1 hx1 hl => cases hl with
        | cons _ y2 _ m2 hx2 hl =>
          cases hl; cases hx1 with
          | str _ hb =>
            cases hx2
            refine .inl ⟨_, w, extern_run Go.Proofs.Tryz.func328 (by kernel_rfl) (by kernel_rfl) (by kernel_rfl) (e := Extern.BytealgIndexByte.indexByte) (by kernel_rfl) (Go.Lib.run_indexByteString _ _ _), by simp, σ, Stp.refl hw, ?_⟩
            have e1 : (enc l).data.toList = u8s l := by simp [enc, u8s]
            have e2 : (Int.ofNat c).toNat.toUInt8 = UInt8.ofNat c := rfl
            rw [e1, e2, ix_eq hc 0 hb]
            have hge := Go.Lib.indexByte_ge (u8s l) (UInt8.ofNat c)
            by_cases h : Go.Lib.indexByte (u8s l) (UInt8.ofNat c) = -1
            · rw [if_pos h, h]; exact .int _ _
            · rw [if_neg h]
              have : Go.Lib.indexByte (u8s l) (UInt8.ofNat c) + ((0 : Nat) : Int) = Go.Lib.indexByte (u8s l) (UInt8.ofNat c) := by simp
              rw [this]; exact .int _ _
    · cases h
  · cases h
end
end Go.VM

