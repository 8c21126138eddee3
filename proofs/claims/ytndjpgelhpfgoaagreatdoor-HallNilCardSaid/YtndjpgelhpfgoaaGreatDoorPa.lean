/-
  Part of the proof by an abstract machine (PSort PSortB PSortI): what each theorem says stands at it; it asks what its own hypotheses say.
-/
import Derived.Test.YtndjpgelhpfgoaaGreatDoorUa
import Derived.Test.YtndjpgelhpfgoaaGreatDoorSa
namespace Go.VM
open Go Go.RowKit Go.Maps
set_option maxRecDepth 100000

def insS' (x : List Nat) : List (List Nat) → List (List Nat)
  | [] => [x]
  | y :: l => match ltS y x with
    | true => y :: insS' x l
    | false => x :: y :: l
def sortS' : List (List Nat) → List (List Nat)
  | [] => []
  | x :: l => insS' x (sortS' l)

theorem insS_perm (x : List Nat) : ∀ l, (insS' x l).Perm (x :: l)
  | [] => .refl _
  | y :: l => by
    simp only [insS']
    split
    · exact ((insS_perm x l).cons y).trans (.swap x y l)
    · exact .refl _
theorem sortS_perm : ∀ l, (sortS' l).Perm l
  | [] => .refl _
  | x :: l => (insS_perm x _).trans ((sortS_perm l).cons x)

theorem ltS_iff : ∀ {a b : List Nat}, Byt a → Byt b → (ltS a b = true ↔ u8s a < u8s b)
  | [], [], _, _ => by simp [ltS, u8s]
  | _ :: _, [], _, _ => by simp [ltS, u8s]
  | [], _ :: _, _, _ => by simp [ltS, u8s]
  | x :: a, y :: b, ha, hb => by
    have hx := ha x (by simp)
    have hy := hb y (by simp)
    have ih := ltS_iff (a := a) (b := b) (fun c hc => ha c (by simp [hc])) (fun c hc => hb c (by simp [hc]))
    have e1 : (UInt8.ofNat x < UInt8.ofNat y) ↔ x < y := by
      rw [UInt8.lt_iff_toNat_lt]; simp [UInt8.toNat_ofNat', Nat.mod_eq_of_lt hx, Nat.mod_eq_of_lt hy]
    have e2 : (UInt8.ofNat x = UInt8.ofNat y) ↔ x = y := by
      constructor
      · intro h
        have := congrArg UInt8.toNat h
        simpa [UInt8.toNat_ofNat', Nat.mod_eq_of_lt hx, Nat.mod_eq_of_lt hy] using this
      · intro h; rw [h]
    show (Nat.blt x y || (Nat.beq x y && ltS a b)) = true ↔ UInt8.ofNat x :: u8s a < UInt8.ofNat y :: u8s b
    rw [List.cons_lt_cons_iff, e1, e2, ← ih, Bool.or_eq_true, Bool.and_eq_true, Nat.blt_eq]
    constructor
    · rintro (h | ⟨h1, h2⟩)
      · exact .inl h
      · exact .inr ⟨Nat.eq_of_beq_eq_true h1, h2⟩
    · rintro (h | ⟨h1, h2⟩)
      · exact .inl h
      · exact .inr ⟨by rw [h1]; exact Nat.beq_refl _, h2⟩

abbrev leU : List UInt8 → List UInt8 → Bool := fun x y => decide (x ≤ y)

theorem insS_sorted {x : List Nat} (hx : Byt x) : ∀ {l : List (List Nat)}, (∀ y ∈ l, Byt y) → (l.map u8s).Pairwise (fun a b => leU a b = true) → ((insS' x l).map u8s).Pairwise (fun a b => leU a b = true)
  | [], _, _ => by simp [insS']
  | y :: l, hl, hp => by
    rw [List.map_cons, List.pairwise_cons] at hp
    have hy := hl y (by simp)
    simp only [insS']
    split
    · rename_i h
      have hlt := (ltS_iff hy hx).1 h
      rw [List.map_cons, List.pairwise_cons]
      refine ⟨fun z hz => ?_, insS_sorted hx (fun q hq => hl q (List.mem_cons_of_mem _ hq)) hp.2⟩
      obtain ⟨q, hq, rfl⟩ := List.mem_map.1 hz
      rcases List.mem_cons.1 ((insS_perm x l).mem_iff.1 hq) with rfl | hq
      · simp only [leU, decide_eq_true_eq]; exact List.le_of_lt hlt
      · exact hp.1 _ (List.mem_map.2 ⟨q, hq, rfl⟩)
    · rename_i h
      have hge : u8s x ≤ u8s y := List.not_lt.1 fun hlt => by rw [(ltS_iff hy hx).2 hlt] at h; cases h
      rw [List.map_cons, List.pairwise_cons, List.map_cons, List.pairwise_cons]
      refine ⟨fun z hz => ?_, hp⟩
      simp only [leU, decide_eq_true_eq]
      rcases List.mem_cons.1 hz with rfl | hz
      · exact hge
      · have := hp.1 z hz
        simp only [leU, decide_eq_true_eq] at this
        exact List.le_trans hge this
theorem sortS_sorted : ∀ {l : List (List Nat)}, (∀ y ∈ l, Byt y) → ((sortS' l).map u8s).Pairwise (fun a b => leU a b = true)
  | [], _ => by simp [sortS']
  | x :: l, hl => insS_sorted (hl x (by simp)) (fun y hy => hl y (List.mem_cons_of_mem _ ((sortS_perm l).mem_iff.1 hy))) (sortS_sorted fun y hy => hl y (List.mem_cons_of_mem _ hy))

/-- two sorted rows of one lot are one -/
theorem sorted_eq {ks : List (List Nat)} (hb : ∀ y ∈ ks, Byt y) {ss : List (List UInt8)} (hp : ss.Perm (ks.map u8s)) : ss.mergeSort (fun x y => decide (x ≤ y)) = (sortS' ks).map u8s := by
  have tr : ∀ a b c : List UInt8, leU a b = true → leU b c = true → leU a c = true := fun a b c h1 h2 => by simp only [leU, decide_eq_true_eq] at *; exact List.le_trans h1 h2
  have to : ∀ a b : List UInt8, (leU a b || leU b a) = true := fun a b => by simp only [leU, Bool.or_eq_true, decide_eq_true_eq]; exact List.le_total a b
  refine List.Perm.eq_of_pairwise (le := fun a b => leU a b = true) (fun a b _ _ h1 h2 => ?_) (List.pairwise_mergeSort tr to ss) (sortS_sorted hb) (((List.mergeSort_perm ss _).trans hp).trans (((sortS_perm ks).map u8s).symm))
  simp only [leU, decide_eq_true_eq] at h1 h2
  exact List.le_antisymm h1 h2
end Go.VM

namespace Go.VM
open Go Go.RowKit Go.Maps
set_option maxRecDepth 100000

noncomputable def sortedS (es : List (AV × AV)) (s : S) : RV := match strKeys' es with
  | some ks => match distS ks && (shortS ks && Nat.ble es.length 1000000) with
    | true => match ks with
      | [] => .ok .snil s
      | k :: l => .ok (.slo s.nx 0 (Nat.succ l.length) 1) (newS s (.cells (ofList ((sortS' (k :: l)).map .str)) ((sortS' (k :: l)).map AV.str).length 9 true))
    | false => .no
  | none => .no
noncomputable def pSorted : Prim := fun a s => match a with
  | [.fn g [] [.ptr b 0]] => match Nat.beq g 244 || Nat.beq g 290 with
    | true => match s.get b with
      | .cells ct m _ opn => match opn with
        | true => .no
        | false => match Nat.blt 0 m with
          | true => match gt ct 0 with
            | .map mm => match s.get mm with
              | .map es => sortedS es s
              | _ => .no
            | _ => .no
          | false => .no
      | _ => .no
    | false => .no
  | _ => .no

section
variable {σ : Nat → Loc} {D : Nat → Prop} {s s' : S} {w w' : World} {v : AV} {P : Program}

def kb : Value → List UInt8
  | .string s => s.data.toList
  | _ => []
def rdNil (_ : Value) : Option (DataW Unit × List MemPlace) := some (.nil, [])

theorem strKeys_perm {k : TypeId} (hk : P.underlying k = some .string) {es : List (AV × AV)} {E : Array MapEntry} {clock : Nat} {ks : List (List Nat)} (hks : strKeys' es = some ks) (hre : RE σ D es E.toList) (hf : Go.WideElems.Fit P k rdNil E clock) :
    (strKeys (DataW.map ((E.toList.map (Go.WideElems.rg P k rdNil)).foldr DataW.insert []))).Perm (ks.map u8s) := by
  obtain ⟨h1, h2, h3⟩ := keys_of hks hre
  have hp := Go.WideShapes.sorted_perm (E.toList.map (Go.WideElems.rg P k rdNil))
  have e1 : strKeys (DataW.map ((E.toList.map (Go.WideElems.rg P k rdNil)).foldr DataW.insert [])) = ((E.toList.map (Go.WideElems.rg P k rdNil)).foldr DataW.insert []).map fun p => Go.strOf p.1 := rfl
  rw [e1]
  refine (hp.map _).trans ?_
  have e2 : (E.toList.map (Go.WideElems.rg P k rdNil)).map (fun p => Go.strOf p.1) = (E.toList.map (·.key)).map kb := by
    rw [List.map_map, List.map_map]
    refine List.map_congr_left fun x hx => ?_
    simp only [Function.comp]
    obtain ⟨y, hy⟩ := hf.reads x hx
    rw [Go.WideElems.rg_of hy]
    have hkey := Go.WideElems.rd_key hy
    obtain ⟨b, hb1, hb2, _⟩ := Go.WideMaps.string_of_keyOf hk hkey
    rw [hb2, hb1]; rfl
  rw [e2, h1, List.map_map]
  have e3 : (kb ∘ fun k => Value.string (enc k)) = u8s := by funext k; simp [kb, enc, u8s]
  rw [e3]

theorem left_of_below (h : Below w.heap.size w w') : Left w w' := ⟨h.size, fun b hb => h.block b hb, h.os, h.tape, h.output⟩

/-- a new row that the world has made gets a name -/
theorem adopt_row {l : List AV} {xs : List Value} {val : Value} {e : TypeId} {elem : Nat} (hw : RW P σ D s w) (hoff : Off D s.nx (Nat.succ s.nx)) (hb : Below w.heap.size w w') (hlen : xs.length = l.length) (hne : l ≠ [])
    (hrow : w'.ownsRow w.heap.size e 1 val l.length xs) (hR : ∀ (σ1 : Nat → Loc) (D1 : Nat → Prop), Rs σ1 D1 l xs) : Aft P σ D s w (.slo s.nx 0 l.length 1) (newS s (.cells (ofList l) l.length elem true)) val w' := by
  have hnD : ¬ D s.nx := fun h => by rcases hoff _ h with h | h <;> omega
  obtain ⟨h1, ⟨_, h0⟩ | ⟨g, cap, cur, rfl, hg, hh, hn, hc, hsz, htk⟩⟩ := hrow
  · exact absurd (List.eq_nil_of_length_eq_zero h0) hne
  · have hlt := (Array.getElem?_eq_some_iff.1 hh).1
    refine ⟨upF σ s.nx ⟨g, 0, cur.size⟩, ?_, ?_⟩
    · refine Stp.adopt (Nat.le_refl _) (Stp.of_left hw (left_of_below hb)) hnD hg (fun x hx => ?_) ?_
      · have := (hw.obj x hx).lt hx
        simp only; omega
      · refine ⟨cur, e, 0, 0, hh, rfl, by simp only [Nat.zero_add]; omega, fun i hi => ?_, .inl rfl, fun h => by cases h⟩
        obtain ⟨x, hx, hr⟩ := (hR (upF σ s.nx ⟨g, 0, cur.size⟩) (Up D s.nx (Nat.succ s.nx))).get i hi
        refine ⟨x, ?_, by rw [gt_ofList hi]; exact hr⟩
        rw [← htk, Nat.mul_one, List.getElem?_take, if_pos hi] at hx
        simpa using hx
    · have hs : upF σ s.nx ⟨g, 0, cur.size⟩ s.nx = ⟨g, 0, cur.size⟩ := by unfold upF; rw [if_pos rfl]
      have := R.slo (σ := upF σ s.nx ⟨g, 0, cur.size⟩) (D := Up D s.nx (Nat.succ s.nx)) s.nx 0 l.length 1 cap (.inr ⟨Nat.le_refl _, Nat.lt_succ_self _⟩) hn (by rw [hs]; simp only; omega)
      rw [hs] at this
      exact this

theorem Rs_strs {l : List (List Nat)} (hb : ∀ y ∈ l, Byt y) (σ1 : Nat → Loc) (D1 : Nat → Prop) : Rs σ1 D1 (l.map .str) ((l.map u8s).map Go.Proofs.encStr) := by
  induction l with
  | nil => exact .nil
  | cons x l ih =>
    refine .cons _ _ _ _ ?_ (ih fun y hy => hb y (List.mem_cons_of_mem _ hy))
    exact .str x (hb x (by simp))

theorem pSorted_ok {args : List AV} (h : pSorted args s = .ok v s') : Syn s s' ∧ ∀ σ D w l, RW Go.Proofs.Tryz.prog σ D s w → Rs σ D args l → Off D s.nx s'.nx → Called Go.Proofs.Tryz.prog 165 l w (Aft Go.Proofs.Tryz.prog σ D s w v s') := by
  unfold pSorted at h
  split at h
  · rename_i g b
    split at h
    · rename_i hg
      split at h
      · rename_i ct m elem opn hb
        split at h
        · cases h
        · split at h
          · rename_i hm0
            rw [Nat.blt_eq] at hm0
            split at h
            · rename_i mm hmm
              split at h
              · rename_i es hes
                unfold sortedS at h
                split at h
                · rename_i ks hks
                  split at h
                  · rename_i hchk
                    simp only [Bool.and_eq_true, Nat.ble_eq] at hchk
                    obtain ⟨hd, hsh, hlen⟩ := hchk
                    -- what the kit's contract says, whatever the state is to be
                    have key : ∀ (σ : Nat → Loc) (D : Nat → Prop) (w : World) (l : List Value), RW Go.Proofs.Tryz.prog σ D s w → Rs σ D [.fn g [] [.ptr b 0]] l → ∀ K : Value → World → Prop,
                        (∀ val ss w', ss.Perm (ks.map u8s) → (∀ y ∈ ks, Byt y) → w'.ownsRow w.heap.size 9 1 val ss.length ((ss.mergeSort (fun x y => decide (x ≤ y))).map Go.Proofs.encStr) → (val = .slice none 0 0 ↔ ss = []) → Below w.heap.size w w' → K val w') → Called Go.Proofs.Tryz.prog 165 l w K := by
                      intro σ D w l hw hl K hK
                      cases hl with
                      | cons _ y _ m' hx hrest =>
                        cases hrest
                        cases hx with
                        | fn _ _ _ fs cs hf1 hf2 =>
                          cases hf1
                          cases hf2 with
                          | cons _ y2 _ m2 hx2 hrest2 =>
                            cases hrest2
                            cases hx2
                            obtain ⟨C, el, lo, hi, c1, c2, c3, c4, c5, c6⟩ := hw.cells hb
                            have hbase := c6 rfl
                            obtain ⟨mv, hmv, hmr⟩ := c4 0 hm0
                            rw [hmm] at hmr
                            cases hmr
                            obtain ⟨E, clock, hE, hre, hborn, hclk⟩ := hw.mapE hes
                            have hfit := fit_of (P := Go.Proofs.Tryz.prog) (k := 9) Go.Proofs.Tryz.underlying9 (R := rdNil) hks hre hd hsh hlen hborn hclk (fun x _ => ⟨_, rfl⟩)
                            have hsz : E.size = es.length := by rw [← hre.len]; simp
                            have hown : w.ownsMap Go.Proofs.Tryz.prog 9 rdNil (σ mm).blk E.size (.map ((E.toList.map (Go.WideElems.rg Go.Proofs.Tryz.prog 9 rdNil)).foldr DataW.insert [])) := ⟨E, clock, hE, hfit, Nat.le_refl _, rfl⟩
                            have hsize : Maps.size (DataW.map ((E.toList.map (Go.WideElems.rg Go.Proofs.Tryz.prog 9 rdNil)).foldr DataW.insert [])) = es.length := by
                              rw [← hsz]; simp [Maps.size, length_sorted]
                            have hBm : (σ b).blk < w.heap.size := (Array.getElem?_eq_some_iff.1 c1).1
                            have hcell : w.cell? ⟨(σ b).blk, 0, none⟩ = some (.map (some (σ mm).blk)) := by
                              rw [cell_eq c1]; rw [hbase] at hmv; simpa using hmv
                            have hadr : (⟨(σ b).blk, (σ b).base + 0, none⟩ : Addr) = ⟨(σ b).blk, 0, none⟩ := by rw [hbase]
                            rw [hadr]
                            have hfin : ∀ (e : Ending) (w' : World), (∃ (v : Value) (ss : List (List UInt8)), e = .returned v ∧ ss.Perm (strKeys (DataW.map ((E.toList.map (Go.WideElems.rg Go.Proofs.Tryz.prog 9 rdNil)).foldr DataW.insert []))) ∧
                                w'.ownsRow w.heap.size 9 1 v ss.length ((ss.mergeSort (fun x y => decide (x ≤ y))).map Go.Proofs.encStr) ∧ (v = .slice none 0 0 ↔ ss = []) ∧ Below w.heap.size w w') → ∃ y, e = .returned y ∧ K y w' := by
                              rintro e w' ⟨val, ss, rfl, hS, hrow, hnil, hbl⟩
                              exact ⟨val, rfl, hK val ss w' (hS.trans (strKeys_perm Go.Proofs.Tryz.underlying9 hks hre hfit)) (keys_of hks hre).2.1 hrow hnil hbl⟩
                            refine .inr ⟨enters Go.Proofs.Tryz.func165 (by kernel_rfl) rfl _ _, ?_⟩
                            rw [Bool.or_eq_true] at hg
                            rcases hg with hg | hg
                            · have := Nat.eq_of_beq_eq_true hg
                              subst this
                              exact (callsIn_wide (n := 0)).2 ((Go.Proofs.Tryz.sorted_keysA _ _ _ _ _ w hBm hcell hown (by rw [hsize]; exact Nat.le_trans hlen (by decide)) (by rw [hsize]; omega)).mono hfin)
                            · have := Nat.eq_of_beq_eq_true hg
                              subst this
                              exact (callsIn_wide (n := 0)).2 ((Go.Proofs.Tryz.sorted_keysB _ _ _ _ _ w hBm hcell hown (by rw [hsize]; exact Nat.le_trans hlen (by decide)) (by rw [hsize]; omega)).mono hfin)
                    split at h
                    · simp only [RV.ok.injEq] at h
                      obtain ⟨rfl, rfl⟩ := h
                      refine ⟨Syn.refl _, fun σ D w l hw hl _ => key σ D w l hw hl _ fun val ss w' hS _ _ hnil hbl => ?_⟩
                      have hss : ss = [] := by simpa using hS
                      rw [hnil.2 hss]
                      exact ⟨σ, Stp.of_left hw (left_of_below hbl), .snil⟩
                    · rename_i k l'
                      simp only [RV.ok.injEq] at h
                      obtain ⟨rfl, rfl⟩ := h
                      refine ⟨new_syn _ _, fun σ D w l hw hl hoff => key σ D w l hw hl _ fun val ss w' hS hby hrow hnil hbl => ?_⟩
                      have hsrt := sorted_eq hby hS
                      rw [hsrt] at hrow
                      have hlen2 : ss.length = ((sortS' (k :: l')).map AV.str).length := by
                        rw [hS.length_eq, List.length_map, List.length_map, (sortS_perm _).length_eq]
                      have hlen3 : Nat.succ l'.length = ((sortS' (k :: l')).map AV.str).length := by
                        rw [List.length_map, (sortS_perm _).length_eq]; rfl
                      rw [hlen2] at hrow
                      have := adopt_row (elem := 9) hw hoff hbl (l := (sortS' (k :: l')).map AV.str) (by simp) (fun e => by
                        have e2 := congrArg List.length e
                        rw [← hlen3] at e2; simp at e2) hrow (fun σ1 D1 => Rs_strs (fun y hy => hby y ((sortS_perm _).mem_iff.1 hy)) σ1 D1)
                      rw [← hlen3] at this
                      rw [← hlen3]
                      exact this
                  · cases h
                · cases h
              · cases h
            · cases h
          · cases h
      · cases h
    · cases h
  · cases h
end
end Go.VM

namespace Go.VM
open Go Go.RowKit Go.Maps
set_option maxRecDepth 100000

def intKeys' : List (AV × AV) → Option (List Nat)
  | [] => some []
  | (.int .i64 (.ofNat k), _) :: l => match intKeys' l with
    | some r => some (k :: r)
    | none => none
  | _ => none
def memI (x : Nat) : List Nat → Bool
  | [] => false
  | y :: l => match Nat.beq x y with
    | true => true
    | false => memI x l
def distI : List Nat → Bool
  | [] => true
  | x :: l => match memI x l with
    | true => false
    | false => distI l
def shortI : List Nat → Bool
  | [] => true
  | x :: l => Nat.ble x 1000000 && shortI l
def insI (x : Nat) : List Nat → List Nat
  | [] => [x]
  | y :: l => match Nat.blt y x with
    | true => y :: insI x l
    | false => x :: y :: l
def sortI : List Nat → List Nat
  | [] => []
  | x :: l => insI x (sortI l)
theorem memI_iff {x : Nat} : ∀ {l : List Nat}, memI x l = true ↔ x ∈ l
  | [] => by simp [memI]
  | y :: l => by
    simp only [memI]
    split
    · rename_i h; simp [Nat.eq_of_beq_eq_true h]
    · rename_i h
      rw [memI_iff]
      have : x ≠ y := fun e => by rw [e, Nat.beq_refl] at h; cases h
      simp [this]
theorem distI_nodup : ∀ {l : List Nat}, distI l = true → l.Nodup
  | [], _ => List.nodup_nil
  | x :: l, h => by
    simp only [distI] at h
    split at h
    · cases h
    · rename_i hm
      refine List.nodup_cons.2 ⟨fun hx => ?_, distI_nodup h⟩
      rw [memI_iff.2 hx] at hm; cases hm
theorem shortI_all : ∀ {l : List Nat}, shortI l = true → ∀ x ∈ l, x ≤ 1000000
  | [], _, x, hx => by simp at hx
  | y :: l, h, x, hx => by
    simp only [shortI, Bool.and_eq_true, Nat.ble_eq] at h
    rcases List.mem_cons.1 hx with rfl | hx
    · exact h.1
    · exact shortI_all h.2 x hx
theorem insI_perm (x : Nat) : ∀ l, (insI x l).Perm (x :: l)
  | [] => .refl _
  | y :: l => by
    simp only [insI]
    split
    · exact ((insI_perm x l).cons y).trans (.swap x y l)
    · exact .refl _
theorem sortI_perm : ∀ l, (sortI l).Perm l
  | [] => .refl _
  | x :: l => (insI_perm x _).trans ((sortI_perm l).cons x)
abbrev leZ : Int → Int → Bool := fun x y => decide (x ≤ y)
def toZ (l : List Nat) : List Int := l.map Int.ofNat
theorem insI_sorted {x : Nat} : ∀ {l : List Nat}, (toZ l).Pairwise (fun a b => leZ a b = true) → (toZ (insI x l)).Pairwise (fun a b => leZ a b = true)
  | [], _ => by simp [insI, toZ]
  | y :: l, hp => by
    simp only [toZ, List.map_cons, List.pairwise_cons] at hp
    simp only [insI]
    split
    · rename_i h
      rw [Nat.blt_eq] at h
      simp only [toZ, List.map_cons, List.pairwise_cons]
      refine ⟨fun z hz => ?_, insI_sorted hp.2⟩
      obtain ⟨q, hq, rfl⟩ := List.mem_map.1 hz
      rcases List.mem_cons.1 ((insI_perm x l).mem_iff.1 hq) with rfl | hq
      · simp only [leZ, decide_eq_true_eq]; exact Int.ofNat_le.2 (by omega)
      · exact hp.1 _ (List.mem_map.2 ⟨q, hq, rfl⟩)
    · rename_i h
      have hge : ¬ y < x := fun hlt => by rw [← Nat.blt_eq, h] at hlt; cases hlt
      simp only [toZ, List.map_cons, List.pairwise_cons]
      refine ⟨fun z hz => ?_, hp⟩
      simp only [leZ, decide_eq_true_eq]
      rcases List.mem_cons.1 hz with rfl | hz
      · exact Int.ofNat_le.2 (by omega)
      · have := hp.1 z hz
        simp only [leZ, decide_eq_true_eq] at this
        exact Int.le_trans (Int.ofNat_le.2 (by omega)) this
theorem sortI_sorted : ∀ {l : List Nat}, (toZ (sortI l)).Pairwise (fun a b => leZ a b = true)
  | [] => by simp [sortI, toZ]
  | x :: l => insI_sorted sortI_sorted
theorem sortedI_eq {ks : List Nat} {ss : List Int} (hp : ss.Perm (toZ ks)) : ss.mergeSort (fun x y => decide (x ≤ y)) = toZ (sortI ks) := by
  have tr : ∀ a b c : Int, leZ a b = true → leZ b c = true → leZ a c = true := fun a b c h1 h2 => by simp only [leZ, decide_eq_true_eq] at *; omega
  have to : ∀ a b : Int, (leZ a b || leZ b a) = true := fun a b => by simp only [leZ, Bool.or_eq_true, decide_eq_true_eq]; omega
  refine List.Perm.eq_of_pairwise (le := fun a b => leZ a b = true) (fun a b _ _ h1 h2 => ?_) (List.pairwise_mergeSort tr to ss) sortI_sorted (((List.mergeSort_perm ss _).trans hp).trans (((sortI_perm ks).map Int.ofNat).symm))
  simp only [leZ, decide_eq_true_eq] at h1 h2
  omega

noncomputable def sortedI (es : List (AV × AV)) (s : S) : RV := match intKeys' es with
  | some ks => match distI ks && (shortI ks && Nat.ble es.length 1000000) with
    | true => match ks with
      | [] => .ok .snil s
      | k :: l => .ok (.slo s.nx 0 (Nat.succ l.length) 1) (newS s (.cells (ofList ((sortI (k :: l)).map fun k => .int .i64 (.ofNat k))) ((sortI (k :: l)).map fun k => AV.int .i64 (.ofNat k)).length 3 true))
    | false => .no
  | none => .no
noncomputable def pSortedI : Prim := fun a s => match a with
  | [.fn g [] [.ptr b 0]] => match Nat.beq g 104 || Nat.beq g 292 with
    | true => match s.get b with
      | .cells ct m _ opn => match opn with
        | true => .no
        | false => match Nat.blt 0 m with
          | true => match gt ct 0 with
            | .map mm => match s.get mm with
              | .map es => sortedI es s
              | _ => .no
            | _ => .no
          | false => .no
      | _ => .no
    | false => .no
  | _ => .no

section
variable {σ : Nat → Loc} {D : Nat → Prop} {s s' : S} {w w' : World} {v : AV} {P : Program}

theorem ikeys_of : ∀ {es : List (AV × AV)} {m : List MapEntry} {ks : List Nat}, intKeys' es = some ks → RE σ D es m → m.map (·.key) = ks.map (fun k => Value.int .i64 (Int.ofNat k)) ∧ es.length = ks.length
  | [], m, ks, h, hr => by
    cases hr
    simp only [intKeys', Option.some.injEq] at h
    subst h; simp
  | (a, u) :: l, m, ks, h, hr => by
    cases hr with
    | cons _ _ e _ m' h1 h2 h3 =>
      unfold intKeys' at h
      split at h
      · rename_i heq; cases heq
      · rename_i k u' l' heq
        injection heq with e1 e2
        injection e1 with e3 e4
        subst e3; subst e2
        split at h
        · rename_i r hr'
          simp only [Option.some.injEq] at h
          subst h
          obtain ⟨i1, i3⟩ := ikeys_of hr' h3
          generalize hk : e.key = kv at h1
          cases h1
          exact ⟨by simp [hk, i1], by simp [i3]⟩
        · cases h
      · cases h

theorem wf_small {k : Nat} (h : k ≤ 1000000) : (Lit.int .i64 (Int.ofNat k)).wf = true := by
  have e : IntKind.i64.min = -9223372036854775808 := by decide
  simp [Lit.wf]
  rw [e]
  omega

theorem ifit_of {k : TypeId} (hk : P.underlying k = some (.int .i64)) {H : Type} {R : Value → Option (DataW H × List MemPlace)} {es : List (AV × AV)} {E : Array MapEntry} {clock : Nat} {ks : List Nat} (hks : intKeys' es = some ks) (hre : RE σ D es E.toList)
    (hd : distI ks = true) (hsh : shortI ks = true) (hlen : es.length ≤ 1000000) (hb : (E.toList.map (·.born)).Nodup) (hc : ∀ e ∈ E.toList, e.born < clock) (hR : ∀ x ∈ E.toList, ∃ y, R x.val = some y) : Go.WideElems.Fit P k R E clock := by
  obtain ⟨h1, h3⟩ := ikeys_of hks hre
  have hsz : E.size = es.length := by rw [← hre.len]; simp
  refine ⟨by rw [hsz]; exact Nat.le_trans hlen (by decide), ⟨hc, hb, ?_⟩, fun x hx => ?_⟩
  · rw [h1]
    refine List.pairwise_map.2 ((distI_nodup hd).imp_of_mem fun {a b} ha hb hne e => hne ?_)
    injection e with _ e
    injection e with e
  · obtain ⟨y, hy⟩ := hR x hx
    have hkm : x.key ∈ E.toList.map (·.key) := List.mem_map.2 ⟨x, hx, rfl⟩
    rw [h1] at hkm
    obtain ⟨kk, hkk, hke⟩ := List.mem_map.1 hkm
    have hkey : keyOf P k x.key = some (.int .i64 (Int.ofNat kk)) := by
      rw [← hke]
      exact keyOf_int_mk hk (wf_small (shortI_all hsh kk hkk))
    exact ⟨_, by unfold Go.WideElems.rd; rw [hkey, hy]; rfl⟩

def zb : Value → Int
  | .int _ n => n
  | _ => 0

theorem intKeys_perm {k : TypeId} (hk : P.underlying k = some (.int .i64)) {es : List (AV × AV)} {E : Array MapEntry} {clock : Nat} {ks : List Nat} (hks : intKeys' es = some ks) (hre : RE σ D es E.toList) (hf : Go.WideElems.Fit P k rdNil E clock) :
    (Go.intKeys (DataW.map ((E.toList.map (Go.WideElems.rg P k rdNil)).foldr DataW.insert []))).Perm (toZ ks) := by
  obtain ⟨h1, h3⟩ := ikeys_of hks hre
  have hp := Go.WideShapes.sorted_perm (E.toList.map (Go.WideElems.rg P k rdNil))
  have e1 : Go.intKeys (DataW.map ((E.toList.map (Go.WideElems.rg P k rdNil)).foldr DataW.insert [])) = ((E.toList.map (Go.WideElems.rg P k rdNil)).foldr DataW.insert []).map fun p => Go.intOf p.1 := rfl
  rw [e1]
  refine (hp.map _).trans ?_
  have e2 : (E.toList.map (Go.WideElems.rg P k rdNil)).map (fun p => Go.intOf p.1) = (E.toList.map (·.key)).map zb := by
    rw [List.map_map, List.map_map]
    refine List.map_congr_left fun x hx => ?_
    simp only [Function.comp]
    obtain ⟨y, hy⟩ := hf.reads x hx
    rw [Go.WideElems.rg_of hy]
    have hkey := Go.WideElems.rd_key hy
    obtain ⟨b, hb1, hb2, _⟩ := Go.Maps.keyOf_int_inv hk hkey
    rw [hb2, hb1]; rfl
  rw [e2, h1, List.map_map]
  exact .refl _

theorem Rs_zs (l : List Nat) (σ1 : Nat → Loc) (D1 : Nat → Prop) : Rs σ1 D1 (l.map fun k => .int .i64 (.ofNat k)) ((toZ l).map Go.encZ) := by
  induction l with
  | nil => exact .nil
  | cons x l ih => exact .cons _ _ _ _ (.int _ _) ih

theorem pSortedI_ok {args : List AV} (h : pSortedI args s = .ok v s') : Syn s s' ∧ ∀ σ D w l, RW Go.Proofs.Tryz.prog σ D s w → Rs σ D args l → Off D s.nx s'.nx → Called Go.Proofs.Tryz.prog 47 l w (Aft Go.Proofs.Tryz.prog σ D s w v s') := by
  unfold pSortedI at h
  split at h
  · rename_i g b
    split at h
    · rename_i hg
      split at h
      · rename_i ct m elem opn hb
        split at h
        · cases h
        · split at h
          · rename_i hm0
            rw [Nat.blt_eq] at hm0
            split at h
            · rename_i mm hmm
              split at h
              · rename_i es hes
                unfold sortedI at h
                split at h
                · rename_i ks hks
                  split at h
                  · rename_i hchk
                    simp only [Bool.and_eq_true, Nat.ble_eq] at hchk
                    obtain ⟨hd, hsh, hlen⟩ := hchk
                    have key : ∀ (σ : Nat → Loc) (D : Nat → Prop) (w : World) (l : List Value), RW Go.Proofs.Tryz.prog σ D s w → Rs σ D [.fn g [] [.ptr b 0]] l → ∀ K : Value → World → Prop,
                        (∀ val ss w', ss.Perm (toZ ks) → w'.ownsRow w.heap.size 3 1 val ss.length ((ss.mergeSort (fun x y => decide (x ≤ y))).map Go.encZ) → (val = .slice none 0 0 ↔ ss = []) → Below w.heap.size w w' → K val w') → Called Go.Proofs.Tryz.prog 47 l w K := by
                      intro σ D w l hw hl K hK
                      cases hl with
                      | cons _ y _ m' hx hrest =>
                        cases hrest
                        cases hx with
                        | fn _ _ _ fs cs hf1 hf2 =>
                          cases hf1
                          cases hf2 with
                          | cons _ y2 _ m2 hx2 hrest2 =>
                            cases hrest2
                            cases hx2
                            obtain ⟨C, el, lo, hi, c1, c2, c3, c4, c5, c6⟩ := hw.cells hb
                            have hbase := c6 rfl
                            obtain ⟨mv, hmv, hmr⟩ := c4 0 hm0
                            rw [hmm] at hmr
                            cases hmr
                            obtain ⟨E, clock, hE, hre, hborn, hclk⟩ := hw.mapE hes
                            have hfit := ifit_of (P := Go.Proofs.Tryz.prog) (k := 3) Go.Proofs.Tryz.underlying3 (R := rdNil) hks hre hd hsh hlen hborn hclk (fun x _ => ⟨_, rfl⟩)
                            have hsz : E.size = es.length := by rw [← hre.len]; simp
                            have hown : w.ownsMap Go.Proofs.Tryz.prog 3 rdNil (σ mm).blk E.size (.map ((E.toList.map (Go.WideElems.rg Go.Proofs.Tryz.prog 3 rdNil)).foldr DataW.insert [])) := ⟨E, clock, hE, hfit, Nat.le_refl _, rfl⟩
                            have hsize : Maps.size (DataW.map ((E.toList.map (Go.WideElems.rg Go.Proofs.Tryz.prog 3 rdNil)).foldr DataW.insert [])) = es.length := by
                              rw [← hsz]; simp [Maps.size, length_sorted]
                            have hBm : (σ b).blk < w.heap.size := (Array.getElem?_eq_some_iff.1 c1).1
                            have hcell : w.cell? ⟨(σ b).blk, 0, none⟩ = some (.map (some (σ mm).blk)) := by
                              rw [cell_eq c1]; rw [hbase] at hmv; simpa using hmv
                            have hadr : (⟨(σ b).blk, (σ b).base + 0, none⟩ : Addr) = ⟨(σ b).blk, 0, none⟩ := by rw [hbase]
                            rw [hadr]
                            have hfin : ∀ (e : Ending) (w' : World), (∃ (v : Value) (ss : List Int), e = .returned v ∧ ss.Perm (Go.intKeys (DataW.map ((E.toList.map (Go.WideElems.rg Go.Proofs.Tryz.prog 3 rdNil)).foldr DataW.insert []))) ∧
                                w'.ownsRow w.heap.size 3 1 v ss.length ((ss.mergeSort (fun x y => decide (x ≤ y))).map Go.encZ) ∧ (v = .slice none 0 0 ↔ ss = []) ∧ Below w.heap.size w w') → ∃ y, e = .returned y ∧ K y w' := by
                              rintro e w' ⟨val, ss, rfl, hS, hrow, hnil, hbl⟩
                              exact ⟨val, rfl, hK val ss w' (hS.trans (intKeys_perm Go.Proofs.Tryz.underlying3 hks hre hfit)) hrow hnil hbl⟩
                            refine .inr ⟨enters Go.Proofs.Tryz.func47 (by kernel_rfl) rfl _ _, ?_⟩
                            rw [Bool.or_eq_true] at hg
                            rcases hg with hg | hg
                            · have := Nat.eq_of_beq_eq_true hg
                              subst this
                              exact (callsIn_wide (n := 0)).2 ((Go.Proofs.Tryz.sorted_keysC _ _ _ _ _ w hBm hcell hown (by rw [hsize]; exact Nat.le_trans hlen (by decide)) (by rw [hsize]; omega)).mono hfin)
                            · have := Nat.eq_of_beq_eq_true hg
                              subst this
                              exact (callsIn_wide (n := 0)).2 ((Go.Proofs.Tryz.sorted_keysD _ _ _ _ _ w hBm hcell hown (by rw [hsize]; exact Nat.le_trans hlen (by decide)) (by rw [hsize]; omega)).mono hfin)
                    split at h
                    · simp only [RV.ok.injEq] at h
                      obtain ⟨rfl, rfl⟩ := h
                      refine ⟨Syn.refl _, fun σ D w l hw hl _ => key σ D w l hw hl _ fun val ss w' hS _ hnil hbl => ?_⟩
                      have hss : ss = [] := by simpa [toZ] using hS
                      rw [hnil.2 hss]
                      exact ⟨σ, Stp.of_left hw (left_of_below hbl), .snil⟩
                    · rename_i k l'
                      simp only [RV.ok.injEq] at h
                      obtain ⟨rfl, rfl⟩ := h
                      refine ⟨new_syn _ _, fun σ D w l hw hl hoff => key σ D w l hw hl _ fun val ss w' hS hrow hnil hbl => ?_⟩
                      have hsrt := sortedI_eq hS
                      rw [hsrt] at hrow
                      have hlen2 : ss.length = ((sortI (k :: l')).map fun k => AV.int .i64 (.ofNat k)).length := by
                        rw [hS.length_eq, List.length_map]; simp [toZ, (sortI_perm (k :: l')).length_eq]
                      have hlen3 : Nat.succ l'.length = ((sortI (k :: l')).map fun k => AV.int .i64 (.ofNat k)).length := by
                        rw [List.length_map, (sortI_perm _).length_eq]; rfl
                      rw [hlen2] at hrow
                      have := adopt_row (elem := 3) hw hoff hbl (l := (sortI (k :: l')).map fun k => AV.int .i64 (.ofNat k)) (by simp [toZ]) (fun e => by
                        have e2 := congrArg List.length e
                        rw [← hlen3] at e2; simp at e2) hrow (fun σ1 D1 => Rs_zs _ σ1 D1)
                      rw [← hlen3] at this
                      rw [← hlen3]
                      exact this
                  · cases h
                · cases h
              · cases h
            · cases h
          · cases h
      · cases h
    · cases h
  · cases h
end
end Go.VM

