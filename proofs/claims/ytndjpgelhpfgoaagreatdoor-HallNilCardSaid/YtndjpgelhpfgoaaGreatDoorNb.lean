/-
  Part of the proof by an abstract machine (TW LO PT): what each theorem says stands at it; it asks what its own hypotheses say.
-/
import Derived.Test.YtndjpgelhpfgoaaGreatDoorProg
import Derived.WalkKit
import Derived.ProofKit
import Derived.SizedLaws
import Derived.Carry
import Derived.Test.YtndjpgelhpfgoaaGreatDoorNa
namespace Go.Proofs
open Go Go.RowKit
theorem Tryz.info5 : (Tryz.prog.info? 5).map (fun i => (i.zero, i.size, i.bytes)) = some (some (.int .u8 0), 1, 1) := by kernel_rfl
theorem twTake (zs : List Int) (k : Nat) (hk : k < zs.length) : zs.take (k + 1) = zs.take k ++ [zs[k]?.getD 0] := by
  rw [List.take_add_one, List.getElem?_eq_getElem hk]; rfl
theorem twKeep {B k : Nat} {zs : List Int} {w wr w1 : World} {u5 v' : Value} {o : Obj} (hk : k < zs.length) (hB : B ≤ wr.heap.size)
    (hown : wr.ownsRow B 5 1 u5 k ((zs.take k).map (Value.int .u8))) (hnx : Below B w wr)
    (hown' : w1.ownsRow B 5 1 v' (k + 1) ((zs.map (Value.int .u8)).take k ++ [.int .u8 (zs[k]?.getD 0)])) (hgrow : (wr.alloc o).grownBy w1 u5.ownBlock) :
    w1.ownsRow B 5 1 v' (k + 1) ((zs.take (k + 1)).map (Value.int .u8)) ∧ Below B w w1 := by
  refine ⟨by rw [twTake zs k hk]; simpa [List.map_take] using hown', (hnx.alloc (by omega) o).grown hgrow (by simp; omega) (fun j hj => by have := (hown.lt j hj).1; omega)⟩

set_option maxHeartbeats 1600000 in
set_option maxRecDepth 1000000 in
theorem twin_any (b off len cap : Nat) (zs : List Int) (w : World) (hreach : len ≤ 140737488351232) (hz : len ≤ zs.length)
    (hbB : b < w.heap.size)
    (hc : ∀ j, j < zs.length → w.cell? ⟨b, off + j, none⟩ = some (.int .u8 (zs.getD j 0))) :
    Calls Tryz.prog 35 #[.slice (some ⟨b, off, none⟩) len cap] w fun e w' =>
      ∃ v, e = .returned v ∧ w'.ownsRow w.heap.size 5 1 v len ((zs.take len).map (Value.int .u8)) ∧ Below w.heap.size w w' := by
  obtain ⟨i0, hi, hz0, hz1, hz2⟩ := info_parts Tryz.info5
  go_enter Tryz.func35, Tryz.ntmps35
  go_wp2
  go_loopw [3, 4] (fun v i wr => ∃ k : Nat, k ≤ len ∧ i = .int .i64 k ∧ wr.ownsRow w.heap.size 5 1 v k ((zs.take k).map (Value.int .u8)) ∧ Below w.heap.size w wr)
    (fun _ i _ => len - (intOf i).toNat)
  case atStart => exact ⟨0, Nat.zero_le _, rfl, World.ownsRow_nil _ _ _ _, Below.refl _ _⟩
  case round =>
    obtain ⟨k, hk, rfl, hown, hnx⟩ := hrel
    have hcx : k < len → wr.cell? ⟨b, off + k, none⟩ = some (.int .u8 (zs.getD k 0)) := fun _ => (hnx.cell (by exact hbB)).trans (hc k (by omega))
    go_wp2_with (first
      | (at_builtin; refine wpList_append_own _ rfl _ _ 35 rfl w.heap.size 5 i0 (.int .u8 0) 1 1 Tryz.underlying35 hi hz0 hz1 hz2 rfl (by decide) _ _ _ rfl (hown.alloc _) ⟨wr.heap.size, 0, none⟩ 1 1 [.int .u8 (zs.getD k 0)] rfl rfl ?c1 ?c2 ?c3 ?c4 ?c5 ?_)
      | go_in)
    case c1 =>
      intro j u hj
      match j, hj with
      | 0, hj => simp at hj; subst hj; simp [Addr.add]
    case c2 => intro u hu; simp at hu; subst hu; rfl
    case c3 => unfold maxLen; omega
    case c4 => omega
    case c5 => have := hnx.size; simp; omega
    · intro v' w1 hown' hgrow _
      have hlt : k < len := by assumption
      have R := twKeep (by omega) (by have := hnx.size; omega) hown hnx hown' hgrow
      clear hown' hgrow hown hcx
      go_wp2
      go_roundw
      case rel => exact ⟨k + 1, by omega, by simp, R.1, R.2⟩
      case measure => simp [intOf]; omega
    · have hge : ¬ k < len := by assumption
      have hkl : k = len := by omega
      subst hkl
      go_ret
      exact ⟨_, rfl, hown, hnx⟩
end Go.Proofs

namespace Go.Proofs
set_option maxRecDepth 100000
theorem laidOut : laidOutB Tryz.prog = true := by kernel_rfl
theorem rec35 : Tryz.prog.readableRec 35 = true := by kernel_rfl
theorem rec43 : Tryz.prog.readableRec 43 = true := by kernel_rfl
theorem lt43 : 43 < Tryz.prog.types.size := of_decide_eq_true (by kernel_rfl)
theorem lt35 : 35 < Tryz.prog.types.size := of_decide_eq_true (by kernel_rfl)
theorem cells5 : Tryz.prog.cellsOf 5 = 1 := by kernel_rfl
theorem bytes5 : Tryz.prog.bytesOf 5 = 1 := by kernel_rfl
theorem cells43 : Tryz.prog.cellsOf 43 = 39 := by kernel_rfl
theorem cells35 : Tryz.prog.cellsOf 35 = 1 := by kernel_rfl
theorem cellT43 : Tryz.prog.cellTypes Tryz.prog.depth 43 = some ([3, 9, 9] ++ List.replicate 32 5 ++ [3, 3, 3, 35]) := by kernel_rfl
end Go.Proofs

namespace Go.VM
open Go
set_option maxRecDepth 100000
theorem kTw0 : outV 0 ((vm EM 100000).call 35 [.sle] s0) = some (.snil, true) := by kernel_rfl
noncomputable def pTwin : Prim := fun a s => match a with
  | [.slo b o _ e] => match Nat.beq o 0 && Nat.beq e 1 with
    | true => match s.get b with
      | .raw => .ok .top s
      | _ => .no
    | false => .no
  | [.sle] => .ok .snil s
  | _ => .no
section
variable {P : Program} {σ : Nat → Loc} {D : Nat → Prop} {s s' : S} {w w' : World} {v : AV}
theorem raw_of (hw : RW P σ D s w) {b : Nat} (h : s.get b = .raw) : ∃ (C : Array Value) (el : TypeId) (fr : Nat × Nat), w.heap[(σ b).blk]? = some (.cells C el fr) ∧ (σ b).tot ≤ (σ b).base + 140737488351232 ∧
    ∀ i, (σ b).base ≤ i → i < (σ b).tot → ∃ z, C[i]? = some (.int .u8 z) := by
  have := hw.obj b (by rw [h]; simp)
  rw [h] at this; exact this

theorem pTwin_ok {args : List AV} (h : pTwin args s = .ok v s') : Syn s s' ∧ ∀ σ D w l, RW Go.Proofs.Tryz.prog σ D s w → Rs σ D args l → Off D s.nx s'.nx → Called Go.Proofs.Tryz.prog 35 l w (Aft Go.Proofs.Tryz.prog σ D s w v s') := by
  unfold pTwin at h
  split at h
  · rename_i b o n e
    split at h
    · rename_i hoe
      rw [Bool.and_eq_true] at hoe
      obtain ⟨ho, he⟩ := hoe
      have ho' := Nat.eq_of_beq_eq_true ho
      have he' := Nat.eq_of_beq_eq_true he
      subst ho'
      subst he'
      split at h
      · rename_i hb
        simp only [RV.ok.injEq] at h
        obtain ⟨rfl, rfl⟩ := h
        refine ⟨Syn.refl _, fun σ D w l hw hl _ => ?_⟩
        cases hl with
        | cons _ y _ m hx hr2 =>
          cases hr2
          cases hx with
          | slo _ _ _ _ cap hD hlen htot =>
            obtain ⟨C, el, fr, hC, hbig, hall⟩ := raw_of hw hb
            have hblk : (σ b).blk < w.heap.size := (Array.getElem?_eq_some_iff.1 hC).1
            obtain ⟨zs, hzs⟩ : ∃ zs : List Int, zs = (List.range n).map fun i => match C[(σ b).base + i]? with | some (.int _ z) => z | _ => 0 := ⟨_, rfl⟩
            have hzl : zs.length = n := by rw [hzs]; simp
            have hcell : ∀ j, j < zs.length → w.cell? ⟨(σ b).blk, (σ b).base + 0 + j, none⟩ = some (.int .u8 (zs.getD j 0)) := by
              intro j hj
              rw [hzl] at hj
              obtain ⟨z, hz⟩ := hall ((σ b).base + j) (by omega) (by omega)
              rw [cell_eq hC, Nat.add_zero, hz, hzs]
              simp [List.getD, hj, hz]
            have hcall := Go.Proofs.twin_any (σ b).blk ((σ b).base + 0) n cap zs w (by omega) (by omega) hblk hcell
            refine .inr ⟨enters Go.Proofs.Tryz.func35 (by kernel_rfl) rfl _ _, (callsIn_wide (n := 0)).2 (hcall.mono ?_)⟩
            rintro e w' ⟨v, rfl, hown, hbel⟩
            refine ⟨v, rfl, σ, Stp.of_left hw ⟨hbel.size, fun b hb => hbel.block b hb, hbel.os, hbel.tape, hbel.output⟩, .top _ ?_⟩
            obtain ⟨_, hcase⟩ := hown
            rcases hcase with ⟨rfl, _⟩ | ⟨g, cap', cur, rfl, _⟩ <;> trivial
      · cases h
    · cases h
  · simp only [RV.ok.injEq] at h
    obtain ⟨rfl, rfl⟩ := h
    obtain ⟨s2, hr, _⟩ := of_outV kTw0
    refine ⟨Syn.refl _, fun σ D w l hw hl _ => pure_call mixed_ok EM_fns EM_prims hr rfl ?_ hw⟩
    cases hl with
    | cons _ y _ m hx hr2 => cases hr2; cases hx; exact .cons _ _ _ _ (.sle _ _) .nil
  · cases h
end
noncomputable def primsN (f : Nat) : Option Prim := if Nat.beq f 35 = true then some pTwin else primsM f
noncomputable def EN : Env := ⟨fnsL, primsN⟩
theorem EN_fns : FnsOk Go.Proofs.Tryz.prog EN := fnsL_ok _
theorem EN_prims : PrimsOk Go.Proofs.Tryz.prog EN := by
  intro f p hp args s v s' h
  have hp' : primsN f = some p := hp
  unfold primsN at hp'
  split at hp'
  · rename_i hf
    have hf' := Nat.eq_of_beq_eq_true hf
    subst hf'
    simp only [Option.some.injEq] at hp'
    subst hp'
    exact pTwin_ok h
  · exact EM_prims f p hp' args s v s' h

/-- a state that sees one block of bytes, of which nothing is known -/
noncomputable def sR : S := ⟨(T.e : T AObj).set .non 0 .raw, 1, [], []⟩
theorem sR_get (x : Nat) : sR.get x = if x = 0 then .raw else .non := by
  unfold sR
  rw [get_mk, get_set]
  by_cases h : x = 0
  · subst h
    rw [if_pos rfl, if_pos rfl, if_neg (by intro h; rcases h with h | h; exact absurd h (by decide); omega)]
  · rw [if_neg h, if_neg h]
    have : (T.e : T AObj).get .non x = .non := rfl
    rw [this]
    split <;> rfl
section
variable {P : Program} {w : World}
theorem raw_start {blk off cap : Nat} {C : Array Value} {el : TypeId} {fr : Nat × Nat} (hC : w.heap[blk]? = some (.cells C el fr)) (hbig : cap ≤ 140737488351232) (hall : ∀ i, off ≤ i → i < off + cap → ∃ z, C[i]? = some (.int .u8 z)) :
    RW P (fun _ => ⟨blk, off, off + cap⟩) (fun x => x = 0) sR w := by
  have key : ∀ x, sR.get x ≠ .non → x = 0 := by
    intro x hx
    rw [sR_get] at hx
    by_cases h : x = 0
    · exact h
    · rw [if_neg h] at hx; exact absurd rfl hx
  refine ⟨key, fun x hx => by rw [key x hx]; exact Nat.one_pos, fun x hx => ?_, fun x y hx hy _ => (key x hx).trans (key y hy).symm⟩
  rw [sR_get, if_pos (key x hx)]
  exact ⟨C, el, fr, hC, by show off + cap ≤ off + _; omega, hall⟩
theorem raw_calls {E : Env} (hm : P.follows .mixedOrders = true) (hf : FnsOk P E) (hp : PrimsOk P E) {n f : Nat} {args : List AV} (h : outV 1 ((vm E n).call f args sR) = some (.bool true, true))
    {blk off cap : Nat} {C : Array Value} {el : TypeId} {fr : Nat × Nat} (hC : w.heap[blk]? = some (.cells C el fr)) (hbig : cap ≤ 140737488351232) (hall : ∀ i, off ≤ i → i < off + cap → ∃ z, C[i]? = some (.int .u8 z))
    {l : List Value} (hl : Rs (fun _ => ⟨blk, off, off + cap⟩) (fun x => x = 0) args l) {fn : Func} {c : Code} (hfn : P.funcs[f]? = some fn) (hb : fn.body = some c) :
    Calls P f ⟨l⟩ w (fun e w' => e = .returned (.bool true) ∧ Left w w') := by
  obtain ⟨s2, hr, hno⟩ := of_outV h
  have hrw := raw_start (P := P) hC hbig hall
  rcases ((vm_ok hm hf hp n).1 _ _ _ _ _ hr).2 _ _ w l hrw hl (fun x hx => .inl (by rw [hx]; exact Nat.one_pos)) with ⟨y, w', h1, _⟩ | ⟨h1, h2⟩
  · exfalso
    simp only [callFunc, Sem.run_bind] at h1
    by_cases hq : fn.name = "runtime.NumGoroutine" <;> simp [hfn, hb, hq] at h1
  · have h2' : CallsIn Fence.wide 0 P f ⟨l⟩ w (fun e w' => ∃ y, e = .returned y ∧ Aft P _ _ sR w _ s2 y w') := h2
    refine (callsIn_wide.1 h2').mono ?_
    rintro e w' ⟨y, rfl, σ', hst, hy⟩
    cases hy
    exact ⟨rfl, hst.left (noWs_iff hno) hrw⟩
end
end Go.VM

