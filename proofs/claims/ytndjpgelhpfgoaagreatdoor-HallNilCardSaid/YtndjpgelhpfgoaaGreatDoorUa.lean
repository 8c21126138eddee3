/-
  Part of the proof by an abstract machine (UsedA UsedB UsedC): what each theorem says stands at it; it asks what its own hypotheses say.
-/
import Derived.Test.YtndjpgelhpfgoaaGreatDoorKb
import Derived.Maps.RangeWalk
import Derived.StringKeys
namespace Go.VM
open Go Go.RowKit Go.Maps
open Go.Proofs (Tryz.prog)

/-- how the disk's files read: as their lengths -/
def rdLen (v : Value) : Option (DataW Unit × List MemPlace) := match v with
  | .slice _ n _ => some (.lit (.int .i64 (n : Int)), [])
  | _ => none
def lenD : DataW Unit → Int
  | .lit (.int _ n) => n
  | _ => 0
/-- the lengths of those that are still to come -/
def sumL (left : Lit → Bool) : List (Lit × DataW Unit) → Int
  | [] => 0
  | p :: l => (if left p.1 then lenD p.2 else 0) + sumL left l

theorem sumL_none {left : Lit → Bool} (h : ∀ k, left k = false) : ∀ l, sumL left l = 0
  | [] => rfl
  | p :: l => by simp [sumL, h, sumL_none h l]

theorem sumL_congr {left left' : Lit → Bool} : ∀ {l : List (Lit × DataW Unit)}, (∀ p ∈ l, left p.1 = left' p.1) → sumL left l = sumL left' l
  | [], _ => rfl
  | p :: l, h => by
    simp only [sumL, h p (by simp)]
    rw [sumL_congr fun q hq => h q (by simp [hq])]

theorem sumL_nonneg {left : Lit → Bool} : ∀ {l : List (Lit × DataW Unit)}, (∀ p ∈ l, 0 ≤ lenD p.2) → 0 ≤ sumL left l
  | [], _ => Int.le_refl _
  | p :: l, h => by
    simp only [sumL]
    have h1 := h p (by simp)
    have h2 := sumL_nonneg (left := left) (l := l) fun q hq => h q (List.mem_cons_of_mem _ hq)
    split <;> omega

theorem sumL_step {left : Lit → Bool} {kl : Lit} {d : DataW Unit} (hlk : left kl = true) (hkl : WideAt.IsKeyLit kl) : ∀ {l : List (Lit × DataW Unit)}, l.Pairwise (fun p q => p.1 ≠ q.1) → (∀ p ∈ l, WideAt.IsKeyLit p.1) → (kl, d) ∈ l →
    sumL left l = sumL (fun z => left z && !z.sameKey kl) l + lenD d
  | [], _, _, h => by simp at h
  | p :: l, hp, hk, h => by
    rw [List.pairwise_cons] at hp
    simp only [sumL]
    rcases List.mem_cons.1 h with rfl | h
    · have hs : kl.sameKey kl = true := WideAt.sameKey_self hkl
      simp only [hlk, hs, Bool.not_true, Bool.and_false, if_true, Bool.false_eq_true, if_false]
      have : sumL left l = sumL (fun z => left z && !z.sameKey kl) l := sumL_congr fun q hq => by
        have hne := hp.1 q hq
        have : q.1.sameKey kl = false := by
          cases hs : q.1.sameKey kl with
          | false => rfl
          | true => exact absurd (WideAt.sameKey_eq hs).symm hne
        simp [this]
      rw [this]; omega
    · have hne := hp.1 _ h
      have : p.1.sameKey kl = false := by
        cases hs : p.1.sameKey kl with
        | false => rfl
        | true => exact absurd (WideAt.sameKey_eq hs) hne
      simp only [this, Bool.not_false, Bool.and_true]
      rw [sumL_step hlk hkl hp.2 (fun q hq => hk q (by simp [hq])) h]
      omega

def mkSl (c : Option Addr × Nat × Nat) : Value := .slice c.1 c.2.1 c.2.2
theorem rdLen_inv (v : Value) (y : DataW Unit × List MemPlace) (hv : rdLen v = some y) : ∃ c, v = mkSl c := by
  cases v <;> simp [rdLen] at hv
  exact ⟨(_, _, _), rfl⟩
def mkStr (x : List UInt8) : Value := .string ⟨x.toArray⟩
theorem key9_inv (key : Value) (kl : Lit) (hk : keyOf Go.Proofs.Tryz.prog 9 key = some kl) : ∃ x, key = mkStr x := by
  cases key <;> simp [keyOf, Go.Proofs.Tryz.underlying9, mapKey] at hk
  rename_i s
  exact ⟨s.data.toList, by simp [mkStr]⟩
theorem law9 : Keyed Go.Proofs.Tryz.prog 9 := string_keyed Go.Proofs.Tryz.underlying9

set_option maxRecDepth 100000 in
set_option maxHeartbeats 1000000 in
theorem used_any (Bd od b nn : Nat) (es0 : List (Lit × DataW Unit)) (w : World) (hc : w.cell? ⟨Bd, od + 1, none⟩ = some (.map (some b))) (hown : w.ownsMap Go.Proofs.Tryz.prog 9 rdLen b nn (.map es0))
    (hap : es0.Pairwise (fun p q => p.1 ≠ q.1)) (hkeys : ∀ p ∈ es0, WideAt.IsKeyLit p.1) (hT : sumL (Maps.has (.map es0)) es0 ≤ 1000000) (hpos : ∀ p ∈ es0, 0 ≤ lenD p.2) :
    Calls Go.Proofs.Tryz.prog 291 #[.pointer (some ⟨Bd, od, none⟩)] w fun e w' => e = .returned (.int .i64 (sumL (Maps.has (.map es0)) es0)) ∧ w.grownBy w' none := by
  go_enter Go.Proofs.Tryz.func291, Go.Proofs.Tryz.ntmps291
  go_wp2_with (first
    | (at_range; refine wpList_range_own _ rfl _ 114 rfl 9 35 law9 Go.Proofs.Tryz.underlying114 _ b nn _ rfl hown ?_; intro w0 hrg0 hg0 hs0)
    | go_in)
  go_frame
  go_loopw [3] (fun s wr => ∃ (left : Lit → Bool) (cnt : Nat), wr.ranges Go.Proofs.Tryz.prog 9 rdLen b w.heap.size nn (.map es0) left cnt ∧ w.grownBy wr none ∧ s = Value.int .i64 (sumL (Maps.has (.map es0)) es0 - sumL left es0))
    (fun _ wr => wr.rangeLeft b w.heap.size)
  case atStart =>
    exact ⟨_, _, hrg0, hg0, by simp⟩
  case round =>
    obtain ⟨left, cnt, hrg, hgw, hs⟩ := hrel
    go_wp2_with (first
      | (at_next; refine wpList_next_ranges _ rfl _ rfl 9 law9 rdLen mkStr mkSl key9_inv rdLen_inv b w.heap.size nn _ _ _ rfl hrg ?_ ?_)
      | go_in)
    · intro _ hl0
      go_wp2
      go_ret
      refine ⟨?_, hgw⟩
      rw [sumL_none hl0]; simp
    · intro x ca cn cc kl yd yp w1 cnt1 hkey hlk hv hat hrg1 hlt hg1 hs1 hen
      have hgw1 := hgw.andThen hg1 (fun j hj => by cases hj; exact Or.inl (Nat.le_refl _))
      clear hs1
      have hkl := hkey
      have hv2 := hv
      simp only [mkSl] at hen
      clear hv hkey
      go_wp2
      have hyd : yd = .lit (.int .i64 (cn : Int)) := by
        simp only [mkSl, rdLen, Option.some.injEq, Prod.mk.injEq] at hv2
        exact hv2.1.symm
      have hmem : (kl, yd) ∈ es0 := by
        obtain ⟨es, clock, since, seen, c0, _, _, _, hD, _, _, _, _, hex, _⟩ := hrg
        obtain ⟨e, he, hek⟩ := hex kl hlk
        have hm : Go.WideElems.rg Go.Proofs.Tryz.prog 9 rdLen e ∈ es0 := by
          have hD' : es0 = (es.toList.map (Go.WideElems.rg Go.Proofs.Tryz.prog 9 rdLen)).foldr DataW.insert [] := by injection hD
          rw [hD']; exact mem_sorted.2 (List.mem_map.2 ⟨e, he, rfl⟩)
        have h2 : (kl, (Go.WideElems.rg Go.Proofs.Tryz.prog 9 rdLen e).2) ∈ es0 := by rw [← hek]; exact hm
        have h3 := (WideAt.atKey_mem .nil (hkeys _ h2) hap h2).symm.trans (hat .nil)
        rw [← h3]; exact h2
      have hst := sumL_step hlk (hkeys _ hmem) hap hkeys hmem
      have h0 := sumL_nonneg (left := fun z => left z && !z.sameKey kl) hpos
      have hle : sumL left es0 ≤ sumL (has (.map es0)) es0 := by
        have : ∀ l : List (Lit × DataW Unit), (∀ p ∈ l, p ∈ es0) → sumL left l ≤ sumL (has (.map es0)) l := by
          intro l
          induction l with
          | nil => intro _; exact Int.le_refl _
          | cons p l ih =>
            intro hl
            simp only [sumL]
            have h1 := ih fun q hq => hl q (List.mem_cons_of_mem _ hq)
            have hp := hl p (by simp)
            have h2 : has (.map es0) p.1 = true := List.any_eq_true.2 ⟨p, hp, WideAt.sameKey_self (hkeys p hp)⟩
            have h3 := hpos p hp
            rw [if_pos h2]
            split <;> omega
        exact this es0 fun _ h => h
      have hln : lenD yd = (cn : Int) := by rw [hyd]; rfl
      refine ⟨⟨fun z => left z && !z.sameKey kl, cnt1, hrg1, hgw1, ?_⟩, by rw [hrg1.left_eq, hrg.left_eq]; exact hlt⟩
      rw [show ∀ n : Int, -9223372036854775808 ≤ n ∧ n ≤ 9223372036854775807 → wrap64 n = n from fun n h => by unfold wrap64; omega]
      · congr 1; omega
      · omega
end Go.VM

namespace Go.VM
open Go Go.RowKit Go.Maps
set_option maxRecDepth 100000

/-! maps whose keys are texts that are known -/
def strKeys' : List (AV × AV) → Option (List (List Nat))
  | [] => some []
  | (.str k, _) :: l => match strKeys' l with
    | some r => some (k :: r)
    | none => none
  | _ => none
def memS (x : List Nat) : List (List Nat) → Bool
  | [] => false
  | y :: l => match eqS x y with
    | true => true
    | false => memS x l
def distS : List (List Nat) → Bool
  | [] => true
  | x :: l => match memS x l with
    | true => false
    | false => distS l
def shortS : List (List Nat) → Bool
  | [] => true
  | x :: l => Nat.ble x.length 1000000 && shortS l

theorem eqS_refl : ∀ x : List Nat, eqS x x = true
  | [] => rfl
  | a :: x => by simp [eqS, eqS_refl x]
theorem eqS_iff : ∀ {x y : List Nat}, eqS x y = true ↔ x = y
  | [], [] => by simp [eqS]
  | [], _ :: _ => by simp [eqS]
  | _ :: _, [] => by simp [eqS]
  | a :: x, b :: y => by simp [eqS, eqS_iff (x := x) (y := y)]
theorem memS_iff {x : List Nat} : ∀ {l : List (List Nat)}, memS x l = true ↔ x ∈ l
  | [] => by simp [memS]
  | y :: l => by
    simp only [memS]
    split
    · rename_i h; simp [eqS_iff.1 h]
    · rename_i h
      rw [memS_iff]
      have : x ≠ y := fun e => by rw [e, eqS_refl] at h; cases h
      simp [this]
theorem distS_nodup : ∀ {l : List (List Nat)}, distS l = true → l.Nodup
  | [], _ => List.nodup_nil
  | x :: l, h => by
    simp only [distS] at h
    split at h
    · cases h
    · rename_i hm
      refine List.nodup_cons.2 ⟨fun hx => ?_, distS_nodup h⟩
      rw [memS_iff.2 hx] at hm; cases hm
theorem shortS_all : ∀ {l : List (List Nat)}, shortS l = true → ∀ x ∈ l, x.length ≤ 1000000
  | [], _, x, hx => by simp at hx
  | y :: l, h, x, hx => by
    simp only [shortS, Bool.and_eq_true, Nat.ble_eq] at h
    rcases List.mem_cons.1 hx with rfl | hx
    · exact h.1
    · exact shortS_all h.2 x hx

def u8s (s : List Nat) : List UInt8 := s.map UInt8.ofNat
theorem u8s_inj : ∀ {a b : List Nat}, Byt a → Byt b → u8s a = u8s b → a = b
  | [], [], _, _, _ => rfl
  | [], _ :: _, _, _, h => by simp [u8s] at h
  | _ :: _, [], _, _, h => by simp [u8s] at h
  | x :: a, y :: b, ha, hb, h => by
    simp only [u8s, List.map_cons, List.cons.injEq] at h
    have hx := ha x (by simp)
    have hy := hb y (by simp)
    have e : x = y := by
      have := congrArg UInt8.toNat h.1
      simpa [UInt8.toNat_ofNat', Nat.mod_eq_of_lt hx, Nat.mod_eq_of_lt hy] using this
    rw [e, u8s_inj (fun c hc => ha c (by simp [hc])) (fun c hc => hb c (by simp [hc])) h.2]
theorem enc_inj {a b : List Nat} (ha : Byt a) (hb : Byt b) (h : enc a = enc b) : a = b := by
  refine u8s_inj ha hb ?_
  have := congrArg (fun s : ByteArray => s.data.toList) h
  simpa [enc, u8s] using this

section
variable {σ : Nat → Loc} {D : Nat → Prop} {s s' : S} {w w' : World} {v : AV} {P : Program}

theorem keys_of : ∀ {es : List (AV × AV)} {m : List MapEntry} {ks : List (List Nat)}, strKeys' es = some ks → RE σ D es m → m.map (·.key) = ks.map (fun k => Value.string (enc k)) ∧ (∀ k ∈ ks, Byt k) ∧ es.length = ks.length
  | [], m, ks, h, hr => by
    cases hr
    simp only [strKeys', Option.some.injEq] at h
    subst h; simp
  | (.str k, u) :: l, m, ks, h, hr => by
    cases hr with
    | cons _ _ e _ m' h1 h2 h3 =>
      simp only [strKeys'] at h
      split at h
      · rename_i r hr'
        simp only [Option.some.injEq] at h
        subst h
        obtain ⟨i1, i2, i3⟩ := keys_of hr' h3
        generalize hk : e.key = kv at h1
        cases h1 with
        | str _ hb =>
          refine ⟨by simp [hk, i1], fun x hx => ?_, by simp [i3]⟩
          rcases List.mem_cons.1 hx with rfl | hx
          · exact hb
          · exact i2 x hx
      · cases h
  | (.top, _) :: _, _, _, h, _ => by simp [strKeys'] at h
  | (.int .., _) :: _, _, _, h, _ => by simp [strKeys'] at h
  | (.rng .., _) :: _, _, _, h, _ => by simp [strKeys'] at h
  | (.bool _, _) :: _, _, _, h, _ => by simp [strKeys'] at h
  | (.ptr .., _) :: _, _, _, h, _ => by simp [strKeys'] at h
  | (.nil, _) :: _, _, _, h, _ => by simp [strKeys'] at h
  | (.sl .., _) :: _, _, _, h, _ => by simp [strKeys'] at h
  | (.slo .., _) :: _, _, _, h, _ => by simp [strKeys'] at h
  | (.snil, _) :: _, _, _, h, _ => by simp [strKeys'] at h
  | (.sle, _) :: _, _, _, h, _ => by simp [strKeys'] at h
  | (.map _, _) :: _, _, _, h, _ => by simp [strKeys'] at h
  | (.mnil, _) :: _, _, _, h, _ => by simp [strKeys'] at h
  | (.fn .., _) :: _, _, _, h, _ => by simp [strKeys'] at h
  | (.yld _, _) :: _, _, _, h, _ => by simp [strKeys'] at h
  | (.fnil, _) :: _, _, _, h, _ => by simp [strKeys'] at h
  | (.ifc .., _) :: _, _, _, h, _ => by simp [strKeys'] at h
  | (.inil, _) :: _, _, _, h, _ => by simp [strKeys'] at h
  | (.agg _, _) :: _, _, _, h, _ => by simp [strKeys'] at h
  | (.tup _, _) :: _, _, _, h, _ => by simp [strKeys'] at h

theorem RE.len {es : List (AV × AV)} {m : List MapEntry} (h : RE σ D es m) : m.length = es.length := by
  induction h with
  | nil => rfl
  | cons _ _ _ _ _ _ _ _ ih => simp [ih]

/-- such a map is one that the kit's laws speak of -/
theorem fit_of {k : TypeId} (hk : P.underlying k = some .string) {H : Type} {R : Value → Option (DataW H × List MemPlace)} {es : List (AV × AV)} {E : Array MapEntry} {clock : Nat} {ks : List (List Nat)} (hks : strKeys' es = some ks) (hre : RE σ D es E.toList)
    (hd : distS ks = true) (hsh : shortS ks = true) (hlen : es.length ≤ 1000000) (hb : (E.toList.map (·.born)).Nodup) (hc : ∀ e ∈ E.toList, e.born < clock) (hR : ∀ x ∈ E.toList, ∃ y, R x.val = some y) : Go.WideElems.Fit P k R E clock := by
  obtain ⟨h1, h2, h3⟩ := keys_of hks hre
  have hsz : E.size = es.length := by rw [← hre.len]; simp
  refine ⟨by rw [hsz]; exact Nat.le_trans hlen (by decide), ⟨hc, hb, ?_⟩, fun x hx => ?_⟩
  · rw [h1]
    refine List.pairwise_map.2 ((distS_nodup hd).imp_of_mem fun {a b} ha hb hne e => hne ?_)
    injection e with e
    exact enc_inj (h2 a ha) (h2 b hb) e
  · obtain ⟨y, hy⟩ := hR x hx
    have hkm : x.key ∈ E.toList.map (·.key) := List.mem_map.2 ⟨x, hx, rfl⟩
    rw [h1] at hkm
    obtain ⟨kk, hkk, hke⟩ := List.mem_map.1 hkm
    have hkey : keyOf P k x.key = some (.string (enc kk).data.toList) := by
      rw [← hke]
      have hs : (enc kk).size ≤ maxLen := by
        have := shortS_all hsh kk hkk
        have e : (enc kk).size = kk.length := by simp [enc, ByteArray.size]
        rw [e]; exact Nat.le_trans this (by decide)
      exact Go.WideMaps.keyOf_string_mk hk hs
    exact ⟨_, by unfold Go.WideElems.rd; rw [hkey, hy]; rfl⟩
end
end Go.VM

namespace Go.VM
open Go Go.RowKit Go.Maps
set_option maxRecDepth 100000

def sumLens' : List (AV × AV) → Option Nat
  | [] => some 0
  | (_, v) :: l => match v with
    | .sl _ _ n _ => (match sumLens' l with | some b => some (Nat.add n b) | none => none)
    | .slo _ _ n _ => (match sumLens' l with | some b => some (Nat.add n b) | none => none)
    | .snil => sumLens' l
    | _ => none

noncomputable def pUsed : Prim := fun a s => match a with
  | [.ptr d o] => match load1 s d (Nat.succ o) with
    | some (.map m) => match s.get m with
      | .map es => match strKeys' es with
        | some ks => match sumLens' es with
          | some n => match distS ks && (shortS ks && (Nat.ble es.length 1000000 && Nat.ble n 1000000)) with
            | true => .ok (.int .i64 (.ofNat n)) s
            | false => .no
          | none => .no
        | none => .no
      | _ => .no
    | _ => .no
  | _ => .no

section
variable {σ : Nat → Loc} {D : Nat → Prop} {s s' : S} {w w' : World} {v : AV} {P : Program}

theorem slice_of {x : AV} {y : Value} {n : Nat} (hr : R σ D x y) (h : (∃ b o c, x = .sl b o n c) ∨ (∃ b o e, x = .slo b o n e) ∨ (x = .snil ∧ n = 0)) : ∃ a c, y = .slice a n c := by
  rcases h with ⟨b, o, c, rfl⟩ | ⟨b, o, e, rfl⟩ | ⟨rfl, rfl⟩ <;> cases hr <;> exact ⟨_, _, rfl⟩

theorem sumLens_of : ∀ {es : List (AV × AV)} {m : List MapEntry} {n : Nat}, sumLens' es = some n → RE σ D es m → (∀ x ∈ m, ∃ y, rdLen x.val = some y ∧ 0 ≤ lenD y.1) ∧
    (m.map fun x => lenD (((rdLen x.val).map (·.1)).getD .nil)).sum = (n : Int)
  | [], m, n, h, hr => by
    cases hr
    simp only [sumLens', Option.some.injEq] at h
    subst h; simp
  | (k, x) :: l, m, n, h, hr => by
    cases hr with
    | cons _ _ e _ m' h1 h2 h3 =>
      have key : ∀ (n1 n2 : Nat), sumLens' l = some n2 → n = n1 + n2 → (∃ a c, e.val = .slice a n1 c) → (∀ x ∈ e :: m', ∃ y, rdLen x.val = some y ∧ 0 ≤ lenD y.1) ∧
          ((e :: m').map fun x => lenD (((rdLen x.val).map (·.1)).getD .nil)).sum = (n : Int) := by
        rintro n1 n2 hl hn ⟨a, c, he⟩
        obtain ⟨i1, i2⟩ := sumLens_of hl h3
        have hrd : rdLen e.val = some (.lit (.int .i64 (n1 : Int)), []) := by rw [he]; rfl
        refine ⟨fun x hx => ?_, ?_⟩
        · rcases List.mem_cons.1 hx with rfl | hx
          · exact ⟨_, hrd, by simp [lenD]⟩
          · exact i1 x hx
        · rw [List.map_cons, List.sum_cons, i2, hrd, hn]
          simp [lenD]
      simp only [sumLens'] at h
      split at h
      · rename_i b o n1 c
        split at h
        · rename_i n2 hl
          simp only [Option.some.injEq] at h
          exact key n1 n2 hl h.symm (slice_of h2 (.inl ⟨_, _, _, rfl⟩))
        · cases h
      · rename_i b o n1 c
        split at h
        · rename_i n2 hl
          simp only [Option.some.injEq] at h
          exact key n1 n2 hl h.symm (slice_of h2 (.inr (.inl ⟨_, _, _, rfl⟩)))
        · cases h
      · exact key 0 n h (by omega) (slice_of h2 (.inr (.inr ⟨rfl, rfl⟩)))
      · cases h

theorem sumL_all {left : Lit → Bool} : ∀ {l : List (Lit × DataW Unit)}, (∀ p ∈ l, left p.1 = true) → sumL left l = (l.map fun p => lenD p.2).sum
  | [], _ => rfl
  | p :: l, h => by
    simp only [sumL, h p (by simp), if_true, List.map_cons, List.sum_cons]
    rw [sumL_all fun q hq => h q (List.mem_cons_of_mem _ hq)]

theorem enters {f : Nat} {fn : Func} {c : Code} (h1 : P.funcs[f]? = some fn) (h4 : (fn.name == "runtime.NumGoroutine") = false) (h2 : fn.body = some c) (args : Array Value) (w : World) : (callFunc f args).run P w = .ok (.enter f args) w := by
  have h4' : ¬ (fn.name = "runtime.NumGoroutine") := by simpa using h4
  simp [callFunc, h1, h4', h2]

theorem perm_sum {a b : List Int} (h : a.Perm b) : a.sum = b.sum := by
  induction h with
  | nil => rfl
  | cons x _ ih => simp [ih]
  | swap x y l => simp only [List.sum_cons]; omega
  | trans _ _ h1 h2 => exact h1.trans h2

theorem left_of_grown (h : w.grownBy w' none) : Left w w' := ⟨h.size, fun b hb => h.block b hb (by simp), h.os, h.tape, h.output⟩

theorem cell_of_load1 {b o : Nat} {a : AV} (h : load1 s b o = some a) (hw : RW P σ D s w) : ∃ v : Value, R σ D a v ∧ w.cell? ⟨(σ b).blk, (σ b).base + o, none⟩ = some v := by
  unfold load1 at h
  split at h
  · rename_i c m e p hg
    split at h
    · rename_i hlt
      simp only [Option.some.injEq] at h
      rw [Nat.blt_eq] at hlt
      obtain ⟨C, el, lo, hi, h1, h2, h3, h4, h5, _⟩ := hw.cells hg
      obtain ⟨v, hv, hr⟩ := h4 o hlt
      exact ⟨v, by rw [← h]; exact hr, by rw [cell_eq h1]; exact hv⟩
    · cases h
  · cases h

theorem RW.mapE (hw : RW P σ D s w) {m : Nat} {es : List (AV × AV)} (h : s.get m = .map es) : ∃ (E : Array MapEntry) (clock : Nat), w.heap[(σ m).blk]? = some (.map E clock) ∧ RE σ D es E.toList ∧ (E.toList.map (·.born)).Nodup ∧ ∀ e ∈ E.toList, e.born < clock := by
  have := hw.obj m (by rw [h]; simp)
  rw [h] at this; exact this

theorem pUsed_ok {args : List AV} (h : pUsed args s = .ok v s') : Syn s s' ∧ ∀ σ D w l, RW Go.Proofs.Tryz.prog σ D s w → Rs σ D args l → Off D s.nx s'.nx → Called Go.Proofs.Tryz.prog 291 l w (Aft Go.Proofs.Tryz.prog σ D s w v s') := by
  unfold pUsed at h
  split at h
  · rename_i d o
    split at h
    · rename_i m hm
      split at h
      · rename_i es hes
        split at h
        · rename_i ks hks
          split at h
          · rename_i n hn
            split at h
            · rename_i hchk
              simp only [Bool.and_eq_true, Nat.ble_eq] at hchk
              obtain ⟨hd, hsh, hlen, hn6⟩ := hchk
              simp only [RV.ok.injEq] at h
              obtain ⟨rfl, rfl⟩ := h
              refine ⟨Syn.refl _, fun σ D w l hw hl _ => ?_⟩
              cases hl with
              | cons _ y _ m' hx hrest =>
                cases hrest
                cases hx
                obtain ⟨mv, hmv, hcell⟩ := cell_of_load1 hm hw
                cases hmv
                obtain ⟨E, clock, hE, hre, hborn, hclk⟩ := hw.mapE hes
                obtain ⟨hvals, hsum⟩ := sumLens_of hn hre
                have hfit := fit_of (P := Go.Proofs.Tryz.prog) (k := 9) Go.Proofs.Tryz.underlying9 (R := rdLen) hks hre hd hsh hlen hborn hclk (fun x hx => let ⟨y, hy, _⟩ := hvals x hx; ⟨y, hy⟩)
                have hown : w.ownsMap Go.Proofs.Tryz.prog 9 rdLen (σ m).blk E.size (.map ((E.toList.map (Go.WideElems.rg Go.Proofs.Tryz.prog 9 rdLen)).foldr DataW.insert [])) := ⟨E, clock, hE, hfit, Nat.le_refl _, rfl⟩
                obtain ⟨es0, hes0, hap, hkeys⟩ := hown.entries law9
                have hperm : es0.Perm (E.toList.map (Go.WideElems.rg Go.Proofs.Tryz.prog 9 rdLen)) := by
                  have : es0 = (E.toList.map (Go.WideElems.rg Go.Proofs.Tryz.prog 9 rdLen)).foldr DataW.insert [] := by injection hes0 with e; exact e.symm
                  rw [this]; exact Go.WideShapes.sorted_perm _
                have hrg2 : ∀ x ∈ E.toList, (Go.WideElems.rg Go.Proofs.Tryz.prog 9 rdLen x).2 = ((rdLen x.val).map (·.1)).getD .nil := by
                  intro x hx
                  obtain ⟨y, hy⟩ := hfit.reads x hx
                  obtain ⟨z, hz, hyz⟩ := Go.WideElems.rd_val hy
                  rw [Go.WideElems.rg_of hy, hyz, hz]; rfl
                have hpos : ∀ p ∈ es0, 0 ≤ lenD p.2 := by
                  intro p hp
                  obtain ⟨x, hx, rfl⟩ := List.mem_map.1 (hperm.mem_iff.1 hp)
                  obtain ⟨y, hy, h0⟩ := hvals x hx
                  rw [hrg2 x hx, hy]; exact h0
                have htot : sumL (Maps.has (.map es0)) es0 = (n : Int) := by
                  rw [sumL_all fun p hp => List.any_eq_true.2 ⟨p, hp, WideAt.sameKey_self (hkeys p hp)⟩]
                  rw [perm_sum (hperm.map fun p => lenD p.2), List.map_map, ← hsum]
                  congr 1
                  exact List.map_congr_left fun x hx => by simp only [Function.comp]; rw [hrg2 x hx]
                rw [hes0] at hown
                have hcall := used_any (σ d).blk ((σ d).base + o) (σ m).blk E.size es0 w (by rw [Nat.add_assoc]; exact hcell) hown hap hkeys (by rw [htot]; omega) hpos
                refine .inr ⟨?_, (callsIn_wide (n := 0)).2 (hcall.mono ?_)⟩
                · exact enters Go.Proofs.Tryz.func291 (by kernel_rfl) rfl _ _
                · rintro e w' ⟨rfl, hg⟩
                  refine ⟨_, rfl, σ, Stp.of_left hw (left_of_grown hg), ?_⟩
                  rw [htot]
                  exact .int _ _
            · cases h
          · cases h
        · cases h
      · cases h
    · cases h
  · cases h
end
end Go.VM

