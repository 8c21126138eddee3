/-
  Part of the proof by an abstract machine (CNil LWt): what each theorem says stands at it; it asks what its own hypotheses say.
-/
import Derived.Test.YtndjpgelhpfgoaaGreatDoorCa
import Derived.Test.YtndjpgelhpfgoaaGreatDoorCards
import Derived.Test.YtndjpgelhpfgoaaGreatDoorTie
import Derived.WalkKit
import Derived.ProofKit
import Derived.OpenShut
import Derived.LaidMore
import Derived.Deep.DeepWitnessRowRef
namespace Go.VM
open Go
theorem out_calls {P : Program} {E : Env} (hm : P.follows .mixedOrders = true) (hf : FnsOk P E) (hp : PrimsOk P E) {n f : Nat} {args : List AV} (h : outV 0 ((vm E n).call f args s0) = some (.bool true, true)) {l : List Value} (hl : Rs (fun _ => ⟨0, 0, 0⟩) (fun _ => False) args l)
    {fn : Func} {c : Code} (hfn : P.funcs[f]? = some fn) (hb : fn.body = some c) (w : World) : Calls P f ⟨l⟩ w (fun e w' => e = .returned (.bool true) ∧ Left w w') := by
  obtain ⟨s2, hr, _⟩ := of_outV h
  refine (vm_calls hm hf hp hr hl hfn hb w).mono ?_
  rintro e w' ⟨y, rfl, ⟨σ', D', hy⟩, hleft⟩
  cases hy
  exact ⟨rfl, hleft⟩

theorem below_of_left {w w' : World} (h : Left w w') : Go.RowKit.Below w.heap.size w w' := ⟨h.os, h.tape, h.output, h.size, fun k hk => h.heap k hk⟩

theorem i64_wf {a : Int} (h : (Lit.int .i64 a).wf = true) : lo64 ≤ a ∧ a ≤ hi64 := by
  have e : IntKind.i64.min = -9223372036854775808 := by decide
  simp [Lit.wf] at h
  rw [e] at h
  exact ⟨by unfold lo64; omega, by unfold hi64; exact h.2⟩

theorem collect_any (a b : Int) (ha : (Lit.int .i64 a).wf = true) (hb : (Lit.int .i64 b).wf = true) (w : World) :
    Calls Go.Proofs.Tryz.prog 5 #[.int .i64 a, .int .i64 b] w (fun e w' => e = .returned (.bool true) ∧ Left w w') := by
  obtain ⟨a1, a2⟩ := i64_wf ha
  obtain ⟨b1, b2⟩ := i64_wf hb
  have key : ∀ {la ha' lb hb' : Int}, outV 0 ((vm EC2 100000).call 5 [rg la ha', rg lb hb'] s0) = some (.bool true, true) → la ≤ a → a ≤ ha' → lb ≤ b → b ≤ hb' → Calls Go.Proofs.Tryz.prog 5 #[.int .i64 a, .int .i64 b] w (fun e w' => e = .returned (.bool true) ∧ Left w w') :=
    fun h h1 h2 h3 h4 => out_calls mixed_ok EC2_fns EC2_prims h (l := [.int .i64 a, .int .i64 b]) (.cons _ _ _ _ (.rng _ _ _ _ h1 h2) (.cons _ _ _ _ (.rng _ _ _ _ h3 h4) .nil)) Go.Proofs.Tryz.func5 rfl w
  have e0 : (Int.negSucc 0) = -1 := rfl
  have e1 : m40 = 1099511627776 := rfl
  have e2 : m41 = 1099511627777 := rfl
  have e3 : (Int.ofNat 0) = 0 := rfl
  have e4 : (Int.ofNat 1) = 1 := rfl
  rcases (by omega : a ≤ -1 ∨ (0 ≤ a ∧ a ≤ 1099511627776) ∨ 1099511627777 ≤ a) with h | h | h <;> rcases (by omega : b ≤ 0 ∨ 1 ≤ b) with k | k
  · exact key kC1 a1 (by rw [e0]; exact h) b1 (by rw [e3]; exact k)
  · exact key kC2 a1 (by rw [e0]; exact h) (by rw [e4]; exact k) b2
  · exact key kC3 (by rw [e3]; exact h.1) (by rw [e1]; exact h.2) b1 (by rw [e3]; exact k)
  · exact key kC4 (by rw [e3]; exact h.1) (by rw [e1]; exact h.2) (by rw [e4]; exact k) b2
  · exact key kC5 (by rw [e2]; exact h) a2 b1 (by rw [e3]; exact k)
  · exact key kC6 (by rw [e2]; exact h) a2 (by rw [e4]; exact k) b2
end Go.VM

namespace Go.Proofs.YtndjpgelhpfgoaaGreatDoor
open Go.ChangeShapes Go.WideShapes Go.ChangeAt Go.RowKit
theorem own : ownKnob Tryz.prog.godebug = none := by kernel_rfl

/-- THE POST, WHERE NOTHING OLDER HAS TURNED -/
theorem post_below {H : Type} {enc : TypeId × Value → H} {P : Program} {f : Func} {s : ChangeSpec} {apart fresh handsOn : Bool} {W W' : World} {args : Array Value} {v : Value} {ds gs : List (DataW H)} {before pr pa pv : List MemPlace}
    (hW : DataW.Whole enc P f.params.toList s.vars apart W args.toList ds gs before)
    (hres : DataW.TrodAll enc P W' (match fresh with | true => W.heap.size | false => 0) (fun _ => false) handsOn f.resultTypes.toList (v.resultList f.resultTypes.size) (s.fn H (ds ++ gs)).results pr)
    (hargs : DataW.TrodAll enc P W' 0 (fun b => decide (b < W.heap.size)) true f.params.toList args.toList (s.fn H (ds ++ gs)).args pa)
    (hvars : DataW.TrodVars enc P W' (fun b => decide (b < W.heap.size)) s.vars (s.fn H (ds ++ gs)).vars pv)
    (hb : Below W.heap.size W W') : s.post enc P f apart fresh handsOn false W args v W' :=
  ⟨ds, gs, before, pr, pa, pv, hW, hres, hargs, hvars, hb.frame _, fun h => by cases h⟩

/-- A WORLD FOR THE WITNESS: the settled one, each listed variable laid -/
def one : DataW Unit → Value
  | .lit (.int k n) => .int k n
  | _ => undef
def flat : DataW Unit → List Value
  | .agg l => l.flatMap fun
    | .agg m => m.map one
    | d => [one d]
  | _ => []
def setC (l : List Value) : Obj → Obj
  | .cells _ t frozen => .cells ⟨l⟩ t frozen
  | o => o
def txt (l : List UInt8) : Value := .string ⟨⟨l⟩⟩
def layAt (i : Nat) (o : Obj) : Obj := match i with
  | 0 => setC [.iface 418 (.agg #[.pointer (some ⟨9, 139, Option.none⟩)])] o
  | 2 => setC (flat Rows.laid_unicode_utf8_first) o
  | 3 => setC (flat Rows.laid_unicode_utf8_acceptRanges) o
  | 4 => setC [.iface 502 (.pointer (some ⟨15, 0, Option.none⟩))] o
  | 5 => setC [.iface 502 (.pointer (some ⟨14, 0, Option.none⟩))] o
  | 6 => setC (flat Rows.laid_internal_strconv_uint64pow10) o
  | 7 => setC (flat Rows.laid_math_bits_deBruijn32tab) o
  | 8 => setC (flat Rows.laid_math_bits_deBruijn64tab) o
  | _ => o
def layAll : Nat → List Obj → List Obj
  | _, [] => []
  | i, o :: l => layAt i o :: layAll (i + 1) l
noncomputable def laidWorld (os : Os) : World :=
  { World.holding Tryz.prog os ⟨#[], #[], []⟩ with heap := ⟨layAll 0 (World.holding Tryz.prog os ⟨#[], #[], []⟩).heap.toList ++
      [.cells #[txt [118, 97, 108, 117, 101, 32, 111, 117, 116, 32, 111, 102, 32, 114, 97, 110, 103, 101]] 504, .cells #[txt [105, 110, 118, 97, 108, 105, 100, 32, 115, 121, 110, 116, 97, 120]] 504]⟩ }
end Go.Proofs.YtndjpgelhpfgoaaGreatDoor

namespace Go.Proofs.YtndjpgelhpfgoaaGreatDoor.collectNil
open Go.ChangeShapes Go.WideShapes Go.ChangeAt Go.RowKit
set_option maxRecDepth 100000 in
theorem contract (H : Type) (enc : TypeId × Value → H) (W : World) (base : Nat) (args : Array Value) (ds gs : List (DataW H)) (before : List MemPlace)
    (hval : ∀ (j : Nat) t v, Tryz.f5.params[j]? = some t → args[j]? = some v → Value.okWide Tryz.prog W .any base t v)
    (hW : DataW.Whole enc Tryz.prog Tryz.f5.params.toList Rows.collectNilSpec.vars false W args.toList ds gs before) :
    Calls Tryz.prog 5 args W fun e W' => ∃ v, e = .returned v ∧ Rows.collectNilSpec.post enc Tryz.prog Tryz.f5 false true false false W args v W' := by
  have hW' := hW
  obtain ⟨p, q, hA0, hV, rfl, hfz, hnd⟩ := hW
  have hA : DataW.TrodAll enc Tryz.prog W 0 (fun _ => true) true Tryz.f5.params.toList args.toList ds p := hA0
  rw [Tryz.params5] at hA hval
  obtain ⟨v0, vs0, d0, ds0, p0, q0, hargs, rfl, rfl, h0, r0⟩ := trodAll_cons hA
  obtain ⟨v1, vs1, d1, ds1, p1, q1, rfl, rfl, rfl, h1, r1⟩ := trodAll_cons r0
  obtain ⟨rfl, rfl, rfl⟩ := trodAll_nil r1
  obtain rfl : args = #[v0, v1] := by cases args; simp_all
  obtain ⟨rfl, rfl⟩ := trodVars_none hV
  obtain ⟨a0, rfl, rfl, rfl, w0⟩ := open_int Tryz.underlying3 (hval 0 3 v0 rfl rfl) h0
  obtain ⟨a1, rfl, rfl, rfl, w1⟩ := open_int Tryz.underlying3 (hval 1 3 v1 rfl rfl) h1
  clear hA0
  simp only [List.append_nil] at hW'
  refine (Go.VM.collect_any a0 a1 w0 w1 W).mono fun e W' ⟨he, hg⟩ => ?_
  subst he
  exact ⟨_, rfl, post_below (pr := []) (pa := []) (pv := []) hW' (trodAll_cons_mk (shut_bool Tryz.underlying4 _) trodAll_mk0) (trodAll_cons_mk (shut_int Tryz.underlying3 w0) (trodAll_cons_mk (shut_int Tryz.underlying3 w1) trodAll_mk0)) rfl
    (Go.VM.below_of_left hg)⟩

end Go.Proofs.YtndjpgelhpfgoaaGreatDoor.collectNil

namespace Go.Proofs.YtndjpgelhpfgoaaGreatDoor.collectNil
set_option maxRecDepth 100000
theorem laid_met (os : Os) : laidMetH Tryz.prog Rows.collectNilRow.laid ((laidWorld os).forCall (fun _ _ => 0) ⟨#[], #[.int .i64 0, .int .i64 0], []⟩).memory :=
  laidMetH_of_parts3 (fuel := 8) (laidMet_of_run' 8 (by kernel_rfl) (by kernel_rfl)) (by kernel_rfl) (by kernel_rfl)
end Go.Proofs.YtndjpgelhpfgoaaGreatDoor.collectNil

