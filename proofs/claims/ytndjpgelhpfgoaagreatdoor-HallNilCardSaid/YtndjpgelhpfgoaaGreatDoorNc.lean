/-
  Part of the proof by an abstract machine (Gen): what each theorem says stands at it; it asks what its own hypotheses say.
-/
import Derived.Test.YtndjpgelhpfgoaaGreatDoorNb
import Derived.Test.YtndjpgelhpfgoaaGreatDoorCards
import Derived.Test.YtndjpgelhpfgoaaGreatDoorTie
import Derived.WalkKit
import Derived.ProofKit
import Derived.OpenShut
import Derived.LaidMore
import Derived.Deep.DeepWitnessRowRef
namespace Go.VM
open Go
theorem out_calls {P : Program} {E : Env} (hm : P.follows .mixedOrders = true) (hf : FnsOk P E) (hp : PrimsOk P E) {n f : Nat} {args : List AV} (h : outV 0 ((vm E n).call f args s0) = some (.bool true, true)) {l : List Value} (hl : Rs (fun _ => ⟨0, 0, 0⟩) (fun _ => False) args l)
    {fn : Func} {c : Code} (hfn : P.funcs[f]? = some fn) (hb : fn.body = some c) (w : World) : Calls P f ⟨l⟩ w (fun e w' => e = .returned (.bool true) ∧ Left w w') := by
  obtain ⟨s2, hr, _⟩ := of_outV h
  refine (vm_calls hm hf hp hr hl hfn hb w).mono ?_
  rintro e w' ⟨y, rfl, ⟨σ', D', hy⟩, hleft⟩
  cases hy
  exact ⟨rfl, hleft⟩

theorem below_of_left {w w' : World} (h : Left w w') : Go.RowKit.Below w.heap.size w w' := ⟨h.os, h.tape, h.output, h.size, fun k hk => h.heap k hk⟩

theorem i64_wf {a : Int} (h : (Lit.int .i64 a).wf = true) : lo64 ≤ a ∧ a ≤ hi64 := by
  have e : IntKind.i64.min = -9223372036854775808 := by decide
  simp [Lit.wf] at h
  rw [e] at h
  exact ⟨by unfold lo64; omega, by unfold hi64; exact h.2⟩

end Go.VM

namespace Go.Proofs.YtndjpgelhpfgoaaGreatDoor
open Go.ChangeShapes Go.WideShapes Go.ChangeAt Go.RowKit
theorem own : ownKnob Tryz.prog.godebug = none := by kernel_rfl

/-- THE POST, WHERE NOTHING OLDER HAS TURNED -/
theorem post_below {H : Type} {enc : TypeId × Value → H} {P : Program} {f : Func} {s : ChangeSpec} {apart fresh handsOn : Bool} {W W' : World} {args : Array Value} {v : Value} {ds gs : List (DataW H)} {before pr pa pv : List MemPlace}
    (hW : DataW.Whole enc P f.params.toList s.vars apart W args.toList ds gs before)
    (hres : DataW.TrodAll enc P W' (match fresh with | true => W.heap.size | false => 0) (fun _ => false) handsOn f.resultTypes.toList (v.resultList f.resultTypes.size) (s.fn H (ds ++ gs)).results pr)
    (hargs : DataW.TrodAll enc P W' 0 (fun b => decide (b < W.heap.size)) true f.params.toList args.toList (s.fn H (ds ++ gs)).args pa)
    (hvars : DataW.TrodVars enc P W' (fun b => decide (b < W.heap.size)) s.vars (s.fn H (ds ++ gs)).vars pv)
    (hb : Below W.heap.size W W') : s.post enc P f apart fresh handsOn false W args v W' :=
  ⟨ds, gs, before, pr, pa, pv, hW, hres, hargs, hvars, hb.frame _, fun h => by cases h⟩

/-- A WORLD FOR THE WITNESS: the settled one, each listed variable laid -/
def one : DataW Unit → Value
  | .lit (.int k n) => .int k n
  | _ => undef
def flat : DataW Unit → List Value
  | .agg l => l.flatMap fun
    | .agg m => m.map one
    | d => [one d]
  | _ => []
def setC (l : List Value) : Obj → Obj
  | .cells _ t frozen => .cells ⟨l⟩ t frozen
  | o => o
def txt (l : List UInt8) : Value := .string ⟨⟨l⟩⟩
def layAt (i : Nat) (o : Obj) : Obj := match i with
  | 0 => setC [.iface 418 (.agg #[.pointer (some ⟨9, 139, Option.none⟩)])] o
  | 2 => setC (flat Rows.laid_unicode_utf8_first) o
  | 3 => setC (flat Rows.laid_unicode_utf8_acceptRanges) o
  | 4 => setC [.iface 502 (.pointer (some ⟨15, 0, Option.none⟩))] o
  | 5 => setC [.iface 502 (.pointer (some ⟨14, 0, Option.none⟩))] o
  | 6 => setC (flat Rows.laid_internal_strconv_uint64pow10) o
  | 7 => setC (flat Rows.laid_math_bits_deBruijn32tab) o
  | 8 => setC (flat Rows.laid_math_bits_deBruijn64tab) o
  | _ => o
def layAll : Nat → List Obj → List Obj
  | _, [] => []
  | i, o :: l => layAt i o :: layAll (i + 1) l
noncomputable def laidWorld (os : Os) : World :=
  { World.holding Tryz.prog os ⟨#[], #[], []⟩ with heap := ⟨layAll 0 (World.holding Tryz.prog os ⟨#[], #[], []⟩).heap.toList ++
      [.cells #[txt [118, 97, 108, 117, 101, 32, 111, 117, 116, 32, 111, 102, 32, 114, 97, 110, 103, 101]] 504, .cells #[txt [105, 110, 118, 97, 108, 105, 100, 32, 115, 121, 110, 116, 97, 120]] 504]⟩ }
end Go.Proofs.YtndjpgelhpfgoaaGreatDoor

namespace Go.VM
open Go
/-- a slice of bytes, of which nothing is known but that it lies where it may -/
def ByteSl (w : World) (v : Value) : Prop := (∃ a cap, v = .slice a 0 cap) ∨ ∃ (blk off len cap : Nat) (C : Array Value) (el : TypeId) (fr : Nat × Nat),
  v = .slice (some ⟨blk, off, none⟩) len cap ∧ len ≤ cap ∧ w.heap[blk]? = some (.cells C el fr) ∧ cap ≤ 140737488351232 ∧ ∀ i, off ≤ i → i < off + cap → ∃ z, C[i]? = some (.int .u8 z)

theorem cells_of_cell? {w : World} {b o : Nat} {v : Value} (h : w.cell? ⟨b, o, none⟩ = some v) : ∃ (C : Array Value) (el : TypeId) (fr : Nat × Nat), w.heap[b]? = some (.cells C el fr) := by
  simp only [World.cell?] at h
  cases hb : w.heap[b]? with
  | none => simp [hb] at h
  | some ob =>
    cases ob with
    | cells C el fr => exact ⟨C, el, fr, rfl⟩
    | _ => simp [hb] at h

theorem byteSl_of {H : Type} {enc : TypeId × Value → H} {w : World} {v : Value} {d : DataW H} {ps : List MemPlace} {fuel : Nat} (h : DataW.trod enc Go.Proofs.Tryz.prog w 0 (fun _ => true) true fuel 35 [v] = some (d, ps))
    (hsz : ∀ elems spare, d = .slice elems spare → (elems.length + spare.length) * Go.Proofs.Tryz.prog.bytesOf 5 ≤ reachBytes) : ByteSl w v := by
  rcases Go.ChangeShapes.open_ints Go.Proofs.Tryz.underlying35 Go.Proofs.Tryz.underlying5 Go.Proofs.cells5 h with ⟨hcs, _⟩ | ⟨a, len, cap, zs, hcs, _, hl, hm, hz, hx, hcell, hwz⟩
  · simp only [List.cons.injEq, and_true] at hcs
    exact .inl ⟨none, 0, hcs⟩
  · simp only [List.cons.injEq, and_true] at hcs
    simp only [if_true] at hz
    simp only [Prod.mk.injEq] at hx
    have hcap : cap ≤ 140737488351232 := by
      have := hsz _ _ hx.1
      rw [Go.Proofs.bytes5] at this
      simp only [Go.ChangeShapes.lits, List.length_map, List.length_take, List.length_drop, reachBytes] at this
      omega
    by_cases h0 : len = 0
    · subst h0; exact .inl ⟨some a, cap, hcs⟩
    · obtain ⟨b, off, spot⟩ := a
      have hspot : spot = none := by simpa [Addr.add] using World.cell?_spot (hcell 0 (by omega))
      subst hspot
      have hc0 := hcell 0 (by omega)
      obtain ⟨C, el, fr, hC⟩ := cells_of_cell? (b := b) (o := off + 0) (by simpa [Addr.add] using hc0)
      refine .inr ⟨b, off, len, cap, C, el, fr, hcs, hl, hC, hcap, fun i h1 h2 => ?_⟩
      have hi := hcell (i - off) (by omega)
      have e : off + (i - off) = i := by omega
      have hi' : w.cell? ⟨b, i, none⟩ = some (.int .u8 (zs.getD (i - off) 0)) := by
        rw [← hi]; congr 1; simp [Addr.add, e]; intro h; omega
      rw [cell_eq hC] at hi'
      exact ⟨_, hi'⟩
end Go.VM

