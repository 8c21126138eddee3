/-
  Part of the proof by an abstract machine (OpsM OpsN OpsO OpsP OpsQ): what each theorem says stands at it; it asks what its own hypotheses say.
-/
import Derived.Test.YtndjpgelhpfgoaaGreatDoorVe
import Derived.Laws.Append
namespace Go.VM
open Go

section
variable {P : Program} {σ : Nat → Loc} {D : Nat → Prop} {s s' : S} {w : World} {a : Act} {tm : T AV} {v : AV} {o : Oper}

theorem lenOf_ok {y : AV} {vy : Value} {n : Nat} (h : lenOf y = some n) (hr : R σ D y vy) (w : World) : (Builtin.lenOf vy).run P w = .ok n w := by
  cases y <;> simp only [lenOf] at h <;> try (simp at h; done)
  · simp at h; subst h; rw [(str_of hr).1]; simp only [Builtin.lenOf, Sem.run_pure, enc_size]
  · simp at h; subst h; rw [(sl_of hr).1]; rfl
  · simp at h; subst h; obtain ⟨c, hc, _⟩ := slo_of hr; rw [hc]; rfl
  · simp at h; subst h; rw [snil_of hr]; rfl

theorem firstN_ok {y : AV} {vy : Value} {n m esz : Nat} {cs : List AV} (h : firstN s esz n y = some cs) (hl : lenOf y = some m) (hnm : n ≤ m) (hw : RW P σ D s w) (hr : R σ D y vy) :
    ∃ l : List Value, (Builtin.firstCells esz n vy).run P w = .ok ⟨l⟩ w ∧ Rs σ D cs l ∧ l.length = n * esz := by
  have hgo : ∀ b o' len cap, vy = .slice (some ⟨(σ b).blk, (σ b).base + o', none⟩) len cap → loadN s b o' (n * esz) = some cs → ∃ l : List Value, (Builtin.firstCells esz n vy).run P w = .ok ⟨l⟩ w ∧ Rs σ D cs l ∧ l.length = n * esz := by
    rintro b o' len cap rfl h
    obtain ⟨l, h1, h2, h3⟩ := loadN_ok h hw
    exact ⟨l, h3, h1, h2⟩
  cases y <;> simp only [firstN] at h <;> try (simp at h; done)
  · rename_i t
    split at h
    · rename_i he
      have he' : esz = 1 := Nat.eq_of_beq_eq_true he
      subst he'
      simp only [Option.some.injEq] at h; subst h
      obtain ⟨rfl, hb⟩ := str_of hr
      simp only [lenOf, Option.some.injEq] at hl
      refine ⟨(t.take n).map fun c => Value.int .u8 (Int.ofNat c), ?_, ?_, by simp; omega⟩
      · simp only [Builtin.firstCells, Sem.run_pure]
        congr 1
        rw [enc_extract, List.drop_zero, Nat.sub_zero]
        show (⟨(t.take n).map UInt8.ofNat⟩ : Array UInt8).map _ = _
        rw [List.map_toArray, List.map_map]
        congr 1
        apply List.map_congr_left
        intro c hc
        have := hb c (List.mem_of_mem_take hc)
        simp [UInt8.toNat_ofNat', Nat.mod_eq_of_lt this]
      · clear hr hb hl
        induction t.take n with
        | nil => exact .nil
        | cons c l ih => exact .cons _ _ _ _ (.int _ _) ih
    · simp at h
  · exact hgo _ _ _ _ (sl_of hr).1 h
  · obtain ⟨c, hc, _⟩ := slo_of hr; exact hgo _ _ _ _ hc h
  · simp only [Option.some.injEq] at h; subst h
    simp only [lenOf, Option.some.injEq] at hl
    have : n = 0 := by omega
    subst this
    rw [snil_of hr]
    exact ⟨[], rfl, .nil, by simp⟩

theorem app_fits (ats : Array TypeId) (t tx ty e : TypeId) (h0 : ats[0]? = some t) (h1 : ats[1]? = some tx) (i : TypeInfo) (ht : P.underlying t = some (.slice e)) (hi : P.info? e = some i) (hk : (∃ e', P.underlying tx = some (.slice e')) ∨ P.underlying tx = some .string)
    {ad : Addr} {len cap n : Nat} {x : Value} {new : List Value} {w' : World} (hn : (Builtin.lenOf x).run P w = .ok n w) (hle : len + n ≤ cap) (hc : (Builtin.firstCells i.size n x).run P w = .ok ⟨new⟩ w)
    (hs : (storeCells (ad.add (len * i.size)) new).run P w = .ok () w') :
    (Builtin.append_ ats ty #[.slice (some ad) len cap, x]).run P w = .ok (.slice (some ad) (len + n) cap) w' := by
  rcases hk with ⟨e', hk⟩ | hk <;>
    simp [Builtin.append_, h0, h1, run_und ht, run_und hk, run_siz hi, hn, hle, hc, hs]

theorem app_nil0 (ats : Array TypeId) (t tx ty e : TypeId) (h0 : ats[0]? = some t) (h1 : ats[1]? = some tx) (i : TypeInfo) (ht : P.underlying t = some (.slice e)) (hi : P.info? e = some i) (hk : (∃ e', P.underlying tx = some (.slice e')) ∨ P.underlying tx = some .string)
    {x : Value} {new : List Value} (hn : (Builtin.lenOf x).run P w = .ok 0 w) (hc : (Builtin.firstCells i.size 0 x).run P w = .ok ⟨new⟩ w) :
    (Builtin.append_ ats ty #[.slice none 0 0, x]).run P w = .ok (.slice none 0 0) w := by
  rcases hk with ⟨e', hk⟩ | hk <;>
    simp [Builtin.append_, h0, h1, run_und ht, run_und hk, run_siz hi, hn, hc]

theorem app_grows (ats : Array TypeId) (t tx ty e : TypeId) (h0 : ats[0]? = some t) (h1 : ats[1]? = some tx) (i : TypeInfo) (z : Value) (ht : P.underlying t = some (.slice e)) (hi : P.info? e = some i) (hz : i.zero = some z) (hk : (∃ e', P.underlying tx = some (.slice e')) ∨ P.underlying tx = some .string)
    {base : Option Addr} {len cap n : Nat} {x : Value} {old new : List Value} (hn : (Builtin.lenOf x).run P w = .ok n w) (hle : cap < len + n) (h63 : len + n ≤ 1000000) (hfit : (len + n) * i.bytes ≤ 1000000)
    (ho : (Builtin.firstCells i.size len (.slice base len cap)).run P w.drew = .ok ⟨old⟩ w.drew) (hc : (Builtin.firstCells i.size n x).run P w.drew = .ok ⟨new⟩ w.drew) :
    (Builtin.append_ ats ty #[.slice base len cap, x]).run P w = .ok (.slice (some ⟨w.heap.size, 0, none⟩) (len + n) (grownCap w (len + n) cap e))
      (w.drew.alloc (.cells ⟨(old ++ new) ++ (Builtin.zeroCells z.cells (grownCap w (len + n) cap e - (len + n))).toList⟩ e)) := by
  have hnl : ¬ (len + n ≤ cap) := by omega
  have h63' : ¬ (9223372036854775807 < ((len : Int) + (n : Int))) := by omega
  have h48' : ¬ (281474976710656 < Builtin.nextslicecap (len + n) cap * i.bytes) := by
    have := growslice_fits (bytes := i.bytes) hle (by omega)
    omega
  rcases hk with ⟨e', hk⟩ | hk <;>
    (simp [Builtin.append_, h0, h1, run_und ht, run_und hk, sizeOf, typeInfo, zeroValue, hi, hz, hn, hnl, h63', h48', Question.forced, ho, hc, newRow, grownCap]
     try (congr 2; apply Array.ext'; simp [List.append_assoc]))

theorem first0 {y : AV} {vy : Value} {m esz : Nat} (hl : lenOf y = some m) (hr : R σ D y vy) (w : World) : (Builtin.firstCells esz 0 vy).run P w = .ok ⟨[]⟩ w := by
  have hz : ∀ ad : Addr, (loadCells ad (0 * esz)).run P w = .ok ⟨[]⟩ w := fun ad => by rw [Nat.zero_mul]; rfl
  cases y <;> simp only [lenOf] at hl <;> try (simp at hl; done)
  · rw [(str_of hr).1]
    simp only [Builtin.firstCells, enc_extract, List.drop_zero, Nat.sub_zero, List.take_zero, Sem.run_pure]
    simp [enc]
  · rw [(sl_of hr).1]; exact hz _
  · obtain ⟨c, hc, _⟩ := slo_of hr; rw [hc]; exact hz _
  · rw [snil_of hr]; rfl

/-- a new row that takes an old one's place -/
theorem Stp.move {b : Nat} {ob : AObj} {ℓ : Loc} {w₁ : World} (hw : RW P σ D s w) (hoff : Off D s.nx (Nat.succ s.nx)) (hx : s.get b ≠ .non) (hℓ : ℓ.blk = (σ b).blk) (hs : w₁.heap.size = w.heap.size)
    (hos : w₁.os = w.os) (htape : w₁.tape = w.tape) (hout : w₁.output = w.output) (hb : ∀ i, i ≠ (σ b).blk → w₁.heap[i]? = w.heap[i]?)
    (ho : RO P (upF σ s.nx ℓ) (Up D s.nx (Nat.succ s.nx)) ob ℓ w₁) : Stp P σ D s w (upF σ s.nx ℓ) (newS (s.upd b .non) ob) w₁ := by
  have hn : ¬ D s.nx := fun h => by rcases hoff _ h with h | h <;> omega
  have hvis : ∀ y, (newS (s.upd b .non) ob).get y ≠ .non → y ≠ s.nx → s.get y ≠ .non ∧ y ≠ b ∧ (newS (s.upd b .non) ob).get y = s.get y := by
    intro y hy hne
    have hg := new_get (s.upd b .non) ob y
    rw [upd_nx, if_neg hne] at hg
    rw [hg] at hy
    rw [upd_get s b y .non hx] at hg hy
    by_cases e : y = b
    · rw [if_pos e] at hy; exact absurd rfl hy
    · rw [if_neg e] at hg hy; exact ⟨hy, e, hg⟩
  refine ⟨upF_ext hn, ⟨?_, ?_, ?_, ?_⟩, by omega, hos, htape, hout, ?_, ?_⟩
  · intro y hy
    by_cases e : y = s.nx
    · subst e; exact .inr ⟨Nat.le_refl _, by rw [newS_nx, upd_nx]; exact Nat.lt_succ_self _⟩
    · exact .inl (hw.dom y (hvis y hy e).1)
  · intro y hy
    rw [newS_nx, upd_nx]
    by_cases e : y = s.nx
    · omega
    · have := hw.lt y (hvis y hy e).1; omega
  · intro y hy
    rw [newS_nx, upd_nx]
    by_cases e : y = s.nx
    · subst e
      have hg := new_get (s.upd b .non) ob s.nx
      rw [upd_nx, if_pos rfl] at hg
      rw [hg] at hy ⊢
      by_cases hh : hidden s.nx (s.upd b .non).hid = true
      · rw [if_pos hh] at hy; exact absurd rfl hy
      · rw [if_neg hh]
        have : upF σ s.nx ℓ s.nx = ℓ := upF_self
        rw [this]; exact ho
    · obtain ⟨h1, h2, h3⟩ := hvis y hy e
      rw [h3]
      have : upF σ s.nx ℓ y = σ y := by unfold upF; rw [if_neg e]
      rw [this]
      exact (hw.obj y h1).mono (upF_ext hn) (fun _ h => .inl h) (hb _ fun eb => h2 (hw.inj y b h1 hx eb))
  · intro y z hy hz he
    by_cases e : y = s.nx <;> by_cases e' : z = s.nx
    · rw [e, e']
    · obtain ⟨h1, h2, _⟩ := hvis z hz e'
      unfold upF at he; rw [if_pos e, if_neg e', hℓ] at he
      exact absurd (hw.inj z b h1 hx he.symm) h2
    · obtain ⟨h1, h2, _⟩ := hvis y hy e
      unfold upF at he; rw [if_neg e, if_pos e', hℓ] at he
      exact absurd (hw.inj y b h1 hx he) h2
    · unfold upF at he; rw [if_neg e, if_neg e'] at he
      exact hw.inj y z (hvis y hy e).1 (hvis z hz e').1 he
  · intro i _ hi
    exact hb i fun e => hi b ((upd_ws s b b .non).2 (.inl rfl)) hx e.symm
  · intro y hy
    by_cases e : y = s.nx
    · refine .inr ⟨by omega, .inr ⟨b, (upd_ws s b b .non).2 (.inl rfl), hx, ?_⟩⟩
      unfold upF; rw [if_pos e]; exact hℓ
    · exact .inl (hvis y hy e).1

theorem Stp.forget {b : Nat} (hw : RW P σ D s w) (hx : s.get b ≠ .non) : Stp P σ D s w σ (s.upd b .non) w :=
  Stp.upd hw hx rfl rfl rfl rfl (fun _ _ => rfl) trivial

theorem RW.same {w₁ : World} (hw : RW P σ D s w) (hh : w₁.heap = w.heap) : RW P σ D s w₁ :=
  ⟨hw.dom, hw.lt, fun x hx => (hw.obj x hx).mono (fun _ _ => rfl) (fun _ h => h) (by rw [hh]), hw.inj⟩

theorem appNew_val {e z n : Nat} {l : List AV} (h : appNew s e z n l = .val v s') : v = .slo s.nx 0 n z ∧ s' = newS s (.cells (ofList l) l.length e true) := newB_ok h

theorem capge (w : World) (need old : Nat) (e : TypeId) : need ≤ grownCap w need old e := by
  show need ≤ need + _; omega

/-- a row that grew -/
theorem app_grown {e : TypeId} {el esz n cap : Nat} {l : List AV} {vs extra : List Value} {w₁ : World} (hw : RW P σ D s w) (hoff : Off D s.nx (Nat.succ s.nx)) (hr : Rs σ D l vs) (hx : vs.length + extra.length = cap * esz) (hn : n ≤ cap)
    (hh : w₁.heap = w.heap.push (.cells ⟨vs ++ extra⟩ e)) (hos : w₁.os = w.os) (htp : w₁.tape = w.tape) (hout : w₁.output = w.output) :
    ∃ σ', R σ' (Up D s.nx (Nat.succ s.nx)) (.slo s.nx 0 n esz) (.slice (some ⟨w.heap.size, 0, none⟩) n cap) ∧ Stp P σ D s w σ' (newS s (.cells (ofList l) l.length el true)) w₁ := by
  have h := Stp.newCells (elem := el) (opn := true) e extra hw hoff hr
  refine ⟨upF σ s.nx ⟨w.heap.size, 0, vs.length + extra.length⟩, ?_, ⟨h.ext, h.rw'.same hh, by rw [hh]; exact h.size, hos, htp, hout, fun b h1 h2 => by rw [hh]; exact h.frame b h1 h2, h.own⟩⟩
  have := R.slo (σ := upF σ s.nx ⟨w.heap.size, 0, vs.length + extra.length⟩) (D := Up D s.nx (Nat.succ s.nx)) s.nx 0 n esz cap up_new hn (by rw [upF_self]; simp only; omega)
  rw [upF_self] at this
  exact this

theorem zeroCells_len (z : Array Value) (n : Nat) : (Builtin.zeroCells z n).toList.length = n * z.size := by simp [Builtin.zeroCells]

theorem op_app {c : Call} {ps x : Operand} (ho : o.op = .call c) (hb : c.callee = .builtin .append) (hc : c.args = ⟨[ps, x]⟩)
    (hop : runOp (cBuiltin P .append c.argTypes [cOpd ps, cOpd x]) tm s = .val v s') (hw : RW P σ D s w) (ht : Rt σ D tm a.tmps) (hoff : Off D s.nx s'.nx) :
    Res P σ D s w v s' ((execOp a.eval o).run P w) := by
  simp only [cBuiltin] at hop
  have hp := ev ht ps
  have hx := ev ht x
  cases h0 : c.argTypes[0]? with
  | none => simp [h0, orBad, runOp, rNo] at hop
  | some t =>
  cases hu : P.underlying t with
  | none => simp [h0, hu, orBad, runOp, rNo] at hop
  | some d =>
  cases d with
  | slice e =>
    cases hti : tyI P e with
    | none => simp [h0, hu, hti, orBad, runOp, rNo] at hop
    | some ie =>
    obtain ⟨i, z, h1, h2, h3, h4, h5, h6⟩ := tyI_ok hti
    cases h1' : c.argTypes[1]? with
    | none => simp [h0, hu, hti, h1', orBad, runOp, rNo] at hop
    | some tx =>
    cases hux : P.underlying tx with
    | none => simp [h0, hu, hti, h1', hux, orBad, runOp, rNo] at hop
    | some dx =>
    have hk : (∃ e', P.underlying tx = some (.slice e')) ∨ P.underlying tx = some .string := by
      cases dx with
      | slice e' => exact .inl ⟨e', hux⟩
      | string => exact .inr hux
      | _ => simp [h0, hu, hti, h1', hux, orBad, runOp, rNo] at hop
    have hzz : Nat.beq ie.zero.cells.length ie.size = true := by
      cases hq : Nat.beq ie.zero.cells.length ie.size with
      | true => rfl
      | false => rcases hk with ⟨e', hk⟩ | hk <;> (rw [hux] at hk; simp only [Option.some.injEq] at hk; subst hk; simp [h0, hu, hti, h1', hux, hq, orBad, runOp, rNo] at hop)
    have hop : appV s e ie.size ie.bytes (evalO tm (cOpd ps)) (evalO tm (cOpd x)) = .val v s' := by
      rcases hk with ⟨e', hk⟩ | hk <;>
        (rw [hux] at hk; simp only [Option.some.injEq] at hk; subst hk
         simpa only [h0, hu, hti, h1', hux, hzz, orBad, Option.bind_eq_bind, Option.bind_some, Option.getD_some, runOp, rApp] using hop)
    have hzs : z.cells.size = i.size := by
      have := ((toAV_ok σ D z).cells).length
      have hz' := Nat.eq_of_beq_eq_true hzz
      rw [h6] at hz'
      rw [← h4, ← hz', this]; simp
    rw [h4, h5] at hop
    have hargs : c.args.map a.eval = #[a.eval ps, a.eval x] := by rw [hc]; simp
    have hex : ∀ y w', (Builtin.append_ c.argTypes o.type #[a.eval ps, a.eval x]).run P w = .ok y w' → (execOp a.eval o).run P w = .ok (.value y) w' := fun y w' h =>
      bi_val ho hb (fun _ => rfl) (by rw [hargs]; exact h)
    unfold appV at hop
    split at hop
    · simp at hop
    · rename_i n hln
      have hlr := lenOf_ok (P := P) hln hx
      split at hop
      · -- nothing to append
        have hf := first0 (P := P) (esz := i.size) hln hx w
        split at hop
        · rename_i b o' len cap he
          rw [he] at hp
          split at hop
          · rename_i hle
            obtain ⟨rfl, rfl⟩ := val_inj hop
            have hle' : len ≤ cap := Nat.le_of_ble_eq_true hle
            refine Res.of (hex _ _ ?_) hw (by rw [he]; exact hp)
            rw [(sl_of hp).1]
            exact app_fits c.argTypes t tx o.type e h0 h1' i hu h2 hk (n := 0) (hlr w) hle' hf rfl
          · simp at hop
        · rename_i b o' len z' he
          rw [he] at hp
          obtain ⟨rfl, rfl⟩ := val_inj hop
          obtain ⟨cap, hv, hD, hle, _⟩ := slo_of hp
          refine Res.of (hex _ _ ?_) hw (by rw [he]; exact hp)
          rw [hv]
          exact app_fits c.argTypes t tx o.type e h0 h1' i hu h2 hk (n := 0) (hlr w) hle hf rfl
        · rename_i he
          rw [he] at hp
          obtain ⟨rfl, rfl⟩ := val_inj hop
          refine Res.of (hex _ _ ?_) hw (by rw [he]; exact hp)
          rw [snil_of hp]
          exact app_nil0 c.argTypes t tx o.type e h0 h1' i hu h2 hk (hlr w) hf
        · simp at hop
      · rename_i n
        split at hop
        · simp at hop
        · rename_i new hfn
          -- the world after a draw
          have hgrow : ∀ (base : Option Addr) (len cap : Nat) (oldA : List AV) (old : List Value) (s1 : S), a.eval ps = .slice base len cap → cap < len + (n + 1) → (len + (n + 1)) * Nat.succ i.bytes ≤ 1000000 →
              (Builtin.firstCells i.size len (.slice base len cap)).run P w.drew = .ok ⟨old⟩ w.drew → Rs σ D oldA old → old.length = len * i.size →
              s1.nx = s.nx → Stp P σ D s w σ s1 w → Syn s s1 →
              appNew s1 e i.size (len + (n + 1)) (oldA ++ new) = .val v s' → Res P σ D s w v s' ((execOp a.eval o).run P w) := by
            intro base len cap oldA old s1 hv hlt hroom hfo hro hlo hnx hst1 hsyn1 hnew
            obtain ⟨newv, hfv, hrn, hln'⟩ := firstN_ok (P := P) (w := w.drew) hfn hln (Nat.le_refl _) (hw.same rfl) hx
            obtain ⟨rfl, rfl⟩ := appNew_val hnew
            rw [newS_nx, hnx] at hoff
            have hneed : len + (n + 1) ≤ 1000000 := Nat.le_trans (Nat.le_mul_of_pos_right _ (Nat.succ_pos _)) hroom
            have hfit : (len + (n + 1)) * i.bytes ≤ 1000000 := Nat.le_trans (Nat.mul_le_mul_left _ (Nat.le_succ _)) hroom
            have hrun := app_grows (w := w) c.argTypes t tx o.type e h0 h1' i z hu h2 h3 hk (base := base) (hlr w) hlt hneed hfit hfo hfv
            rw [hex _ _ (by rw [hv]; exact hrun)]
            have hcg := capge w (len + (n + 1)) cap e
            have hrw1 : RW P σ D s1 w := hst1.rw'.congrD fun x => by rw [hnx]; exact Up.self
            obtain ⟨σ', hr', hst⟩ := app_grown (e := e) (el := e) (esz := i.size) (n := len + (n + 1)) (cap := grownCap w (len + (n + 1)) cap e)
              (w₁ := w.drew.alloc (.cells ⟨(old ++ newv) ++ (Builtin.zeroCells z.cells (grownCap w (len + (n + 1)) cap e - (len + (n + 1)))).toList⟩ e)) hrw1 (by rw [hnx]; exact hoff) (hro.append hrn)
              (by rw [zeroCells_len, hzs, List.length_append, hlo, hln', ← Nat.add_mul, ← Nat.add_mul]; congr 1; omega) hcg rfl rfl rfl rfl
            refine ⟨_, _, σ', rfl, .inl ⟨_, rfl, ?_⟩, ?_⟩
            · rw [newS_nx, hnx]; rw [hnx] at hr'; exact hr'
            · have hD : Up D s.nx s1.nx = D := funext fun x => propext (by rw [hnx]; exact Up.self)
              rw [← hD] at hst
              exact Stp.trans hsyn1 (new_syn _ _) hw hst1 hst
          split at hop
          · -- nil
            rename_i he
            rw [he] at hp
            split at hop
            · rename_i hroom
              have hroom' : (n + 1) * Nat.succ i.bytes ≤ 1000000 := Nat.le_of_ble_eq_true hroom
              refine hgrow none 0 0 [] [] s (snil_of hp) (by omega) (by simpa using hroom') rfl .nil (by simp) rfl (Stp.refl hw) (Syn.refl _) ?_
              rw [Nat.zero_add]; exact hop
            · simp at hop
          · -- a slice whose room is known
            rename_i b o' len cap he
            rw [he] at hp
            obtain ⟨hv, hD⟩ := sl_of hp
            split at hop
            · simp at hop
            · rename_i hroom
              have hroom0 : (cap + (len + (n + 1))) * Nat.succ i.bytes ≤ 1000000 := Nat.le_of_ble_eq_true hroom
              have hroom' : (len + (n + 1)) * Nat.succ i.bytes ≤ 1000000 := Nat.le_trans (Nat.mul_le_mul_right _ (by omega)) hroom0
              split at hop
              · rename_i hle
                have hle' : len + (n + 1) ≤ cap := Nat.le_of_ble_eq_true hle
                split at hop
                · rename_i s1 hs1
                  obtain ⟨rfl, rfl⟩ := val_inj hop
                  obtain ⟨newv, hfv, hrn, hln'⟩ := firstN_ok (P := P) (w := w) hfn hln (Nat.le_refl _) hw hx
                  obtain ⟨w', hst, hstp⟩ := storeN_ok hs1 hw hrn
                  refine ⟨.value (.slice (some ⟨(σ b).blk, (σ b).base + o', none⟩) (len + (n + 1)) cap), w', σ, ?_, .inl ⟨_, rfl, ?_⟩, hstp⟩
                  · refine hex (.slice (some ⟨(σ b).blk, (σ b).base + o', none⟩) (len + (n + 1)) cap) _ ?_
                    rw [hv]
                    refine app_fits c.argTypes t tx o.type e h0 h1' i hu h2 hk (hlr w) hle' hfv ?_
                    rw [addr_add, Nat.add_assoc]; exact hst
                  · exact .sl _ _ _ _ (.inl hD)
                · simp at hop
              · rename_i hle
                have hle' : ¬ (len + (n + 1) ≤ cap) := fun h => by
                  have := Nat.ble_eq_true_of_le h
                  rw [show Nat.ble (Nat.add len (Nat.succ n)) cap = Nat.ble (len + (n + 1)) cap from rfl, this] at hle; simp at hle
                split at hop
                · rename_i old hold
                  obtain ⟨l, hr1, hr2, hr3⟩ := loadN_ok hold (hw.same (w₁ := w.drew) rfl)
                  exact hgrow _ len cap old l s hv (by omega) hroom' hr3 hr1 hr2 rfl (Stp.refl hw) (Syn.refl _) hop
                · simp at hop
          · -- a slice whose room is not known
            rename_i b o' len ez he
            rw [he] at hp
            obtain ⟨cap, hv, hD, hlc, htot⟩ := slo_of hp
            split at hop
            · simp at hop
            · rename_i hroom
              rw [Bool.and_eq_true, Bool.and_eq_true] at hroom
              have hroom' : (len + (n + 1)) * Nat.succ i.bytes ≤ 1000000 := Nat.le_of_ble_eq_true hroom.1.1
              have hez : ez = i.size := Nat.eq_of_beq_eq_true hroom.1.2
              subst hez
              have hscn := hroom.2
              split at hop
              · rename_i old hold
                have hvis := loadN_vis hold
                by_cases hle : len + (n + 1) ≤ cap
                · obtain ⟨newv, hfv, hrn, hln''⟩ := firstN_ok (P := P) (w := w) hfn hln (Nat.le_refl _) hw hx
                  have hln' : newv.length = (n + 1) * i.size := hln''
                  obtain ⟨l, hr1, hr2, hr3⟩ := loadN_ok hold hw
                  obtain ⟨rfl, rfl⟩ := appNew_val hop
                  rw [newS_nx, upd_nx] at hoff
                  unfold loadN at hold
                  split at hold
                  · rename_i ct m el p hg
                    split at hold
                    · rename_i hlm
                      simp only [Option.some.injEq] at hold
                      have hlm' : o' + len * i.size ≤ m := Nat.le_of_ble_eq_true hlm
                      obtain ⟨C, el', lo, hi, c1, c2, c3, c4, c5, _⟩ := hw.cells hg
                      have hmul : len * i.size + (n + 1) * i.size = (len + (n + 1)) * i.size := by rw [← Nat.add_mul]
                      have hcap : (len + (n + 1)) * i.size ≤ cap * i.size := Nat.mul_le_mul_right _ hle
                      obtain ⟨w', C', hrun, hh, hs, hcc, hz, hbb, hos, htp, hout⟩ := storeCells_run P (σ b).blk ((σ b).base + o' + len * i.size) el' lo hi newv 0 C w c1 (by omega) (fun j hj => by omega) (hrn.scals hscn)
                      refine ⟨.value (.slice (some ⟨(σ b).blk, (σ b).base + o', none⟩) (len + (n + 1)) cap), w', upF σ s.nx ⟨(σ b).blk, (σ b).base + o', (σ b).tot⟩, ?_, .inl ⟨_, rfl, ?_⟩, Stp.move hw hoff hvis rfl hz hos htp hout hbb ?_⟩
                      · refine hex (.slice (some ⟨(σ b).blk, (σ b).base + o', none⟩) (len + (n + 1)) cap) _ ?_
                        rw [hv]
                        refine app_fits c.argTypes t tx o.type e h0 h1' i hu h2 hk (hlr w) hle hfv ?_
                        rw [addr_add]; exact hrun
                      · rw [newS_nx, upd_nx]
                        have := R.slo (σ := upF σ s.nx ⟨(σ b).blk, (σ b).base + o', (σ b).tot⟩) (D := Up D s.nx (Nat.succ s.nx)) s.nx 0 (len + (n + 1)) i.size cap up_new hle (by rw [upF_self]; simp only; omega)
                        rw [upF_self] at this
                        exact this
                      · have hn : ¬ D s.nx := fun h => by rcases hoff _ h with h | h <;> omega
                        have holdl : old.length = len * i.size := by rw [← hold, getN_len]; rfl
                        have hnewl : new.length = (n + 1) * i.size := by rw [hrn.length, hln']
                        refine ⟨C', el', lo, hi, hh, hs.trans c2, ?_, fun j hj => ?_, c5, fun h => by cases h⟩
                        · rw [List.length_append, holdl, hnewl]; simp only; omega
                        · rw [List.length_append, holdl, hnewl] at hj
                          have hgt : gt (ofList (old ++ new)) j = (old ++ new).getD j (.tup []) := by
                            unfold ofList; rw [gt_setN, if_pos (by rw [List.length_append]; omega)]; simp
                          rw [hgt, hcc]
                          by_cases hj1 : j < len * i.size
                          · rw [if_neg (by simp only; omega)]
                            obtain ⟨y, hy, hry⟩ := c4 (o' + j) (by omega)
                            refine ⟨y, by rw [← hy]; congr 1; simp only; omega, ?_⟩
                            have : (old ++ new).getD j (.tup []) = gt ct (o' + j) := by
                              rw [List.getD, List.getElem?_append_left (by omega), ← hold]
                              rw [getN_get _ _ _ _ (by exact hj1)]; rfl
                            rw [this]
                            exact hry.mono (upF_ext hn) (fun _ h => .inl h)
                          · rw [if_pos (by simp only; omega)]
                            obtain ⟨y, hy, hry⟩ := hrn.get (j - len * i.size) (by omega)
                            refine ⟨y, by rw [← hy]; congr 1; simp only; omega, ?_⟩
                            have : (old ++ new).getD j (.tup []) = new.getD (j - len * i.size) (.tup []) := by
                              rw [List.getD, List.getElem?_append_right (by omega), holdl]; rfl
                            rw [this]
                            exact hry.mono (upF_ext hn) (fun _ h => .inl h)
                    · simp at hold
                  · simp at hold
                · obtain ⟨l, hr1, hr2, hr3⟩ := loadN_ok hold (hw.same (w₁ := w.drew) rfl)
                  exact hgrow _ len cap old l (s.upd b .non) hv (by omega) hroom' hr3 hr1 hr2 (upd_nx _ _ _) (Stp.forget hw hvis) (upd_syn _ _ _ hvis) hop
              · simp at hop
          · simp at hop
  | _ => simp [h0, hu, orBad, runOp, rNo] at hop
end
end Go.VM

namespace Go.VM
open Go

section
variable {P : Program} {σ : Nat → Loc} {D : Nat → Prop} {s s' : S} {w : World} {a : Act} {tm : T AV} {v : AV} {o : Oper}

theorem cpy_some (ats : Array TypeId) (t ty e : TypeId) (h0 : ats[0]? = some t) (i : TypeInfo) (ht : P.underlying t = some (.slice e)) (hi : P.info? e = some i)
    {ad : Addr} {len cap n m : Nat} {x : Value} {new : List Value} {w' : World} (hn : (Builtin.lenOf x).run P w = .ok n w) (hm : Nat.min n len = m) (hc : (Builtin.firstCells i.size m x).run P w = .ok ⟨new⟩ w)
    (hs : (storeCells ad new).run P w = .ok () w') :
    (Builtin.copy_ ats ty #[.slice (some ad) len cap, x]).run P w = .ok (goInt m) w' := by
  subst hm
  simp [Builtin.copy_, h0, run_und ht, run_siz hi, hn, hc, hs]

theorem cpy_none (ats : Array TypeId) (t ty e : TypeId) (h0 : ats[0]? = some t) (i : TypeInfo) (ht : P.underlying t = some (.slice e)) (hi : P.info? e = some i)
    {len cap n m : Nat} {x : Value} {new : List Value} (hn : (Builtin.lenOf x).run P w = .ok n w) (hm : Nat.min n len = m) (hc : (Builtin.firstCells i.size m x).run P w = .ok ⟨new⟩ w) :
    (Builtin.copy_ ats ty #[.slice none len cap, x]).run P w = .ok (goInt m) w := by
  subst hm
  simp [Builtin.copy_, h0, run_und ht, run_siz hi, hn, hc]

theorem op_cpy {c : Call} {d x : Operand} (ho : o.op = .call c) (hb : c.callee = .builtin .copy) (hc : c.args = ⟨[d, x]⟩)
    (hop : runOp (cBuiltin P .copy c.argTypes [cOpd d, cOpd x]) tm s = .val v s') (hw : RW P σ D s w) (ht : Rt σ D tm a.tmps) :
    Res P σ D s w v s' ((execOp a.eval o).run P w) := by
  simp only [cBuiltin] at hop
  have hd := ev ht d
  have hx := ev ht x
  cases h0 : c.argTypes[0]? with
  | none => simp [h0, orBad, runOp, rNo] at hop
  | some t =>
  cases hu : P.underlying t with
  | none => simp [h0, hu, orBad, runOp, rNo] at hop
  | some dt =>
  cases dt with
  | slice e =>
    cases hi : P.info? e with
    | none => simp [h0, hu, hi, orBad, runOp, rNo] at hop
    | some i =>
    simp only [h0, hu, hi, orBad, Option.bind_eq_bind, Option.bind_some, pure, Option.getD_some, runOp, rCpy] at hop
    have hargs : c.args.map a.eval = #[a.eval d, a.eval x] := by rw [hc]; simp
    have hex : ∀ y w', (Builtin.copy_ c.argTypes o.type #[a.eval d, a.eval x]).run P w = .ok y w' → (execOp a.eval o).run P w = .ok (.value y) w' := fun y w' h =>
      bi_val ho hb (fun _ => rfl) (by rw [hargs]; exact h)
    unfold cpyV at hop
    split at hop
    · simp at hop
    · rename_i n hln
      have hlr := lenOf_ok (P := P) hln hx w
      have hgo : ∀ b o' len cap, a.eval d = .slice (some ⟨(σ b).blk, (σ b).base + o', none⟩) len cap → cpyT s i.size b o' (Nat.min n len) (evalO tm (cOpd x)) = .val v s' → Res P σ D s w v s' ((execOp a.eval o).run P w) := by
        intro b o' len cap hv hop
        unfold cpyT at hop
        split at hop
        · simp at hop
        · rename_i cs hfn
          obtain ⟨l, h1, h2, h3⟩ := firstN_ok (P := P) hfn hln (Nat.min_le_left _ _) hw hx
          split at hop
          · rename_i hz
            obtain ⟨rfl, rfl⟩ := val_inj hop
            rw [hz] at h1 h3
            have hl0 : l = [] := List.eq_nil_of_length_eq_zero (by rw [h3]; simp)
            subst hl0
            refine Res.of (y := goInt 0) (hex _ _ ?_) hw (.int _ _)
            rw [hv]
            exact cpy_some c.argTypes t o.type e h0 i hu hi hlr hz h1 rfl
          · rename_i m hz
            split at hop
            · rename_i s1 hs1
              obtain ⟨rfl, rfl⟩ := val_inj hop
              obtain ⟨w', hst, hstp⟩ := storeN_ok hs1 hw h2
              rw [hz] at h1
              refine ⟨.value (goInt (m + 1 : Nat)), w', σ, hex _ _ ?_, .inl ⟨_, rfl, .int _ _⟩, hstp⟩
              rw [hv]
              exact cpy_some c.argTypes t o.type e h0 i hu hi hlr hz h1 hst
            · simp at hop
      split at hop
      · rename_i b o' len cap he
        rw [he] at hd
        exact hgo b o' len cap (sl_of hd).1 hop
      · rename_i b o' len ez he
        rw [he] at hd
        obtain ⟨cap, hv, _⟩ := slo_of hd
        exact hgo b o' len cap hv hop
      · rename_i he
        rw [he] at hd
        obtain ⟨rfl, rfl⟩ := val_inj hop
        have hv := snil_of hd
        have hf := first0 (P := P) (esz := i.size) hln hx w
        refine Res.of (y := goInt 0) (hex _ _ ?_) hw (.int _ _)
        rw [hv]
        exact cpy_none c.argTypes t o.type e h0 i hu hi hlr (Nat.min_zero n) hf
      · simp at hop
  | _ => simp [h0, hu, orBad, runOp, rNo] at hop

/-! parts put into a row of cells -/

theorem fold_set (l : List Value) : ∀ (off k : Nat) (C : Array Value), off + k + l.length ≤ C.size →
    ((l.zipIdx k).foldl (fun cs (p : Value × Nat) => cs.setIfInBounds (off + p.2) p.1) C).size = C.size ∧
    ∀ j, ((l.zipIdx k).foldl (fun cs (p : Value × Nat) => cs.setIfInBounds (off + p.2) p.1) C)[j]? = if off + k ≤ j ∧ j < off + k + l.length then l[j - (off + k)]? else C[j]? := by
  induction l with
  | nil => intro off k C _; exact ⟨rfl, fun j => by rw [if_neg (by simp)]; rfl⟩
  | cons v l ih =>
    intro off k C h
    simp only [List.zipIdx_cons, List.foldl_cons]
    obtain ⟨h1, h2⟩ := ih off (k + 1) (C.setIfInBounds (off + k) v) (by simp at h ⊢; omega)
    refine ⟨by rw [h1]; simp, fun j => ?_⟩
    rw [h2 j]
    by_cases hj : off + (k + 1) ≤ j ∧ j < off + (k + 1) + l.length
    · rw [if_pos hj, if_pos (by simp; omega)]
      have : j - (off + k) = (j - (off + (k + 1))) + 1 := by omega
      rw [this]; rfl
    · rw [if_neg hj, Array.getElem?_setIfInBounds]
      by_cases h3 : off + k = j
      · subst h3
        rw [if_pos rfl, if_pos (by simp at h; omega), if_pos (by simp)]
        simp
      · rw [if_neg h3, if_neg (by simp; omega)]

/-- the cells of a tree and a row -/
def RC (σ : Nat → Loc) (D : Nat → Prop) (c : T AV) (C : Array Value) (n : Nat) : Prop := C.size = n ∧ ∀ j, j < n → ∃ v, C[j]? = some v ∧ R σ D (gt c j) v

theorem RC.put {c : T AV} {C : Array Value} {n off : Nat} (h : RC σ D c C n) {x : AV} {y : Value} (hr : R σ D x y) (hle : off + x.cells.length ≤ n) :
    RC σ D (setN x.cells off c) (y.cells.zipIdx.foldl (fun cs (p : Value × Nat) => cs.setIfInBounds (off + p.2) p.1) C) n := by
  have hc := hr.cells
  have hl := hc.length
  have hz : y.cells.zipIdx.foldl (fun cs (p : Value × Nat) => cs.setIfInBounds (off + p.2) p.1) C = (y.cells.toList.zipIdx 0).foldl (fun cs (p : Value × Nat) => cs.setIfInBounds (off + p.2) p.1) C := by
    rw [← Array.foldl_toList]; simp
  rw [hz]
  obtain ⟨h1, h2⟩ := fold_set y.cells.toList off 0 C (by rw [h.1]; omega)
  refine ⟨h1.trans h.1, fun j hj => ?_⟩
  rw [h2 j, gt_setN]
  by_cases hin : off ≤ j ∧ j < off + x.cells.length
  · rw [if_pos hin, if_pos (by omega)]
    obtain ⟨z, hz, hrz⟩ := hc.get (j - off) (by omega)
    exact ⟨z, by rw [← hz]; rfl, hrz⟩
  · rw [if_neg hin, if_neg (by omega)]
    exact h.2 j hj

theorem RC.of_list {l : List AV} {C : Array Value} (h : Rs σ D l C.toList) : RC σ D (ofList l) C l.length := by
  refine ⟨by rw [h.length]; simp, fun j hj => ?_⟩
  obtain ⟨z, hz, hr⟩ := h.get j hj
  refine ⟨z, by simpa using hz, ?_⟩
  have : gt (ofList l) j = l.getD j (.tup []) := by
    unfold ofList; rw [gt_setN, if_pos (by omega)]; simp
  rw [this]; exact hr

theorem RC.list {c : T AV} {C : Array Value} {n : Nat} (h : RC σ D c C n) : Rs σ D (getN c n 0) C.toList := by
  refine Rs_of (by rw [getN_len]; simp [h.1]) fun i hi => ?_
  rw [getN_len] at hi
  obtain ⟨z, hz, hr⟩ := h.2 i hi
  refine ⟨gt c i, z, ?_, by simpa using hz, hr⟩
  rw [getN_get _ _ _ _ hi, Nat.zero_add]

theorem fillS_ok {esz tot : Nat} (ht : Rt σ D tm a.tmps) : ∀ {ps : List (Nat × Operand)} {c c' : T AV} {C : Array Value}, RC σ D c C tot →
    fillS tm esz tot (ps.map fun (j, x) => (j, cOpd x)) c = some c' →
    ∃ C', Instr.fill (fun i => some (i * esz, esz)) C (ps.map fun (i, x) => (i, a.eval x)) = some C' ∧ RC σ D c' C' tot
  | [], c, c', C, h, hf => by simp [fillS] at hf; subst hf; exact ⟨C, rfl, h⟩
  | (j, x) :: ps, c, c', C, h, hf => by
    simp only [List.map_cons, fillS] at hf
    split at hf
    · rename_i hc
      rw [Bool.and_eq_true] at hc
      have h1 := Nat.eq_of_beq_eq_true hc.1
      have h2 : j * esz + esz ≤ tot := Nat.le_of_ble_eq_true hc.2
      have hx := ev ht x
      have hl := hx.cells.length
      obtain ⟨C', h3, h4⟩ := fillS_ok ht (h.put (off := j * esz) hx (by omega)) hf
      refine ⟨C', ?_, h4⟩
      simp only [List.map_cons, Instr.fill]
      have hsz : (a.eval x).cells.size = esz := by rw [cells_toList]; omega
      rw [if_neg (by rw [hsz, h.1]; simp; omega)]
      exact h3
    · simp at hf

theorem op_bsl {t : TypeId} {len : Nat} {parts : Array (Nat × Operand)} (ho : o.op = .buildSlice t len parts) (hop : runOp (cOp P (.buildSlice t len parts)) tm s = .val v s') (hw : RW P σ D s w) (ht : Rt σ D tm a.tmps) (hoff : Off D s.nx s'.nx) :
    Res P σ D s w v s' ((execOp a.eval o).run P w) := by
  simp only [cOp] at hop
  cases hu : P.underlying t with
  | none => simp [hu, orBad, runOp, rNo] at hop
  | some d =>
  cases d with
  | slice e =>
    cases hti : tyI P e with
    | none => simp [hu, hti, orBad, runOp, rNo] at hop
    | some ie =>
    obtain ⟨i, z, h1, h2, h3, h4, h5, h6⟩ := tyI_ok hti
    simp only [hu, hti, orBad, Option.bind_eq_bind, Option.bind_some, pure] at hop
    cases hq : Nat.ble (len * ie.size) (2 ^ 24) && Nat.beq ie.zero.cells.length ie.size with
    | false => simp [hq, runOp, rNo] at hop
    | true =>
    simp only [hq, cond_true, Option.getD_some, runOp, rBsl] at hop
    rw [Bool.and_eq_true] at hq
    have hle := Nat.le_of_ble_eq_true hq.1
    have hzs : z.cells.size = i.size := by
      have := ((toAV_ok σ D z).cells).length
      have hz' := Nat.eq_of_beq_eq_true hq.2
      rw [h6] at hz'
      rw [← h4, ← hz', this]; simp
    rw [h4] at hop hle
    split at hop
    · rename_i c' hf
      obtain ⟨rfl, rfl⟩ := newB_ok hop
      rw [newS_nx] at hoff
      -- the row of zeros
      have hz0 : RC σ D (ofList (rep ie.zero.cells len)) ((Array.range (len * i.size)).map (z.cells[· % z.cells.size]!)) (rep ie.zero.cells len).length := by
        have := zeroRow_ok (σ := σ) (D := D) (z := z) (n := len)
        rw [hzs] at this
        rw [h6]
        have h' := RC.of_list this
        rw [hzs]; exact h'
      obtain ⟨C', hfill, hC⟩ := fillS_ok (a := a) ht hz0 (by simpa using hf)
      have hzz : (if len * i.size = 0 then (#[] : Array Value) else z.cells) = z.cells ∨ len * i.size = 0 := by
        by_cases h : len * i.size = 0
        · exact .inr h
        · rw [if_neg h]; exact .inl rfl
      have hrun : (execOp a.eval o).run P w = .ok (.value (.slice (some ⟨w.heap.size, 0, none⟩) len len)) { w with heap := w.heap.push (.cells C' e) } := by
        have hmp : (parts.map fun (p : Nat × Operand) => (p.1, a.eval p.2)).toList = parts.toList.map fun (i, x) => (i, a.eval x) := by simp
        simp only [execOp, ho, Instr.buildSlice, Sem.run_bind, run_und hu, Result.andThen_ok, run_siz h2]
        rw [if_neg (by omega)]
        by_cases h : len * i.size = 0
        · simp only [Sem.run_bind, h, if_true, Sem.run_pure, Result.andThen_ok, hmp]
          rw [h] at hfill
          have hr0 : (Array.range 0) = #[] := rfl
          simp only [hr0, List.map_toArray, List.map_nil] at hfill ⊢
          simp only [hfill, newRow, Sem.run_bind, run_newObj, Result.andThen_ok, Sem.run_pure]
        · simp only [Sem.run_bind, h, if_false, run_zer h2 h3, Sem.run_pure, Result.andThen_ok, hmp, hfill, newRow, run_newObj]
      rw [hrun]
      have hst := Stp.new (P := P) (ob := .cells C' e) (ℓ := ⟨w.heap.size, 0, C'.size⟩) (o := .cells c' (rep ie.zero.cells len).length e false) hw hoff rfl ?_
      · refine ⟨_, _, _, rfl, .inl ⟨_, rfl, ?_⟩, hst⟩
        have := R.sl (σ := upF σ s.nx ⟨w.heap.size, 0, C'.size⟩) (D := Up D s.nx (Nat.succ s.nx)) s.nx 0 len len up_new
        rw [upF_self] at this
        exact this
      · have hn : ¬ D s.nx := fun h => by rcases hoff _ h with h | h <;> omega
        refine ⟨C', e, 0, 0, by simp, rfl, by simp [hC.1], fun j hj => ?_, .inl rfl, fun _ => rfl⟩
        obtain ⟨y, hy, hr⟩ := hC.2 j hj
        exact ⟨y, by simpa using hy, hr.mono (upF_ext hn) (fun _ h => .inl h)⟩
    · simp at hop
  | _ => simp [hu, orBad, runOp, rNo] at hop
end
end Go.VM

namespace Go.VM
open Go

section
variable {P : Program} {σ : Nat → Loc} {D : Nat → Prop} {s s' : S} {w : World} {a : Act} {tm : T AV} {v : AV} {o : Oper}

theorem run_mapM {α β : Type} {f : α → Sem β} {g : α → β} : ∀ (l : List α), (∀ x ∈ l, (f x).run P w = .ok (g x) w) → (l.mapM f).run P w = .ok (l.map g) w
  | [], _ => by simp
  | x :: l, h => by
    rw [List.mapM_cons]
    simp only [Sem.run_bind, h x (by simp), Result.andThen_ok, run_mapM l (fun y hy => h y (by simp [hy])), Sem.run_pure, List.map_cons]

theorem run_mapMA {α β : Type} {f : α → Sem β} {g : α → β} (l : Array α) (h : ∀ x ∈ l.toList, (f x).run P w = .ok (g x) w) : (l.mapM f).run P w = .ok (l.map g) w := by
  rw [Array.mapM_eq_mapM_toList]
  simp only [map_eq_pure_bind, Sem.run_bind, run_mapM l.toList h, Result.andThen_ok, Sem.run_pure]
  congr 1
  apply Array.ext'; simp

theorem fillP_ok {tot : Nat} (ht : Rt σ D tm a.tmps) {place : Nat → Option (Nat × Nat)} {pt : List (Nat × Operand) → Option (List (Nat × Nat × Opd))}
    (hnil : ∀ r, pt [] = some r → r = []) (hcons : ∀ j x l r, pt ((j, x) :: l) = some r → ∃ off n r', r = (off, n, cOpd x) :: r' ∧ pt l = some r' ∧ place j = some (off, n)) :
    ∀ {ps : List (Nat × Operand)} {r : List (Nat × Nat × Opd)} {c c' : T AV} {C : Array Value}, pt ps = some r → RC σ D c C tot → fillP tm tot r c = some c' →
    ∃ C', Instr.fill place C (ps.map fun (i, x) => (i, a.eval x)) = some C' ∧ RC σ D c' C' tot
  | [], r, c, c', C, hp, h, hf => by
    rw [hnil r hp] at hf
    simp [fillP] at hf; subst hf; exact ⟨C, rfl, h⟩
  | (j, x) :: ps, r, c, c', C, hp, h, hf => by
    obtain ⟨off, n, r', rfl, hp', hpl⟩ := hcons j x ps r hp
    simp only [fillP] at hf
    split at hf
    · rename_i hc
      rw [Bool.and_eq_true] at hc
      have h1 := Nat.eq_of_beq_eq_true hc.1
      have h2 : off + n ≤ tot := Nat.le_of_ble_eq_true hc.2
      have hx := ev ht x
      have hl := hx.cells.length
      obtain ⟨C', h3, h4⟩ := fillP_ok ht hnil hcons hp' (h.put (off := off) hx (by omega)) hf
      refine ⟨C', ?_, h4⟩
      simp only [List.map_cons, Instr.fill, hpl]
      have hsz : (a.eval x).cells.size = n := by rw [cells_toList]; omega
      rw [if_neg (by rw [hsz, h.1]; simp; omega)]
      exact h3
    · simp at hf

theorem op_build {t : TypeId} {parts : Array (Nat × Operand)} (ho : o.op = .build t parts) (hop : runOp (cOp P (.build t parts)) tm s = .val v s') (hw : RW P σ D s w) (ht : Rt σ D tm a.tmps) :
    Res P σ D s w v s' ((execOp a.eval o).run P w) := by
  simp only [cOp] at hop
  cases hti : tyI P t with
  | none => simp [hti, orBad, runOp, rNo] at hop
  | some i =>
  obtain ⟨j, z, h1, h2, h3, h4, h5, h6⟩ := tyI_ok hti
  have hmp : (parts.map fun (p : Nat × Operand) => (p.1, a.eval p.2)).toList = parts.toList.map fun (i, x) => (i, a.eval x) := by simp
  have hz0 : RC σ D (ofList i.zero.cells) z.cells i.zero.cells.length := by
    rw [h6]; exact RC.of_list (toAV_ok σ D z).cells
  have hfin : ∀ (C' : Array Value) (c' : T AV), RC σ D c' C' i.zero.cells.length → (Instr.build t (parts.map fun (p : Nat × Operand) => (p.1, a.eval p.2))).run P w = .ok (.agg C') w →
      Nx.val (.agg (getN c' i.zero.cells.length 0)) s = .val v s' → Res P σ D s w v s' ((execOp a.eval o).run P w) := by
    intro C' c' hC hr hv
    obtain ⟨rfl, rfl⟩ := val_inj hv
    refine Res.of (y := .agg C') ?_ hw (.agg _ C'.toList hC.list)
    simp only [execOp, ho, Sem.run_bind, hr, Result.andThen_ok, Sem.run_pure]
  simp only [hti, orBad, Option.bind_eq_bind, Option.bind_some] at hop
  cases hd : i.d with
  | struct fs =>
    rw [hd] at hop h1
    simp only at hop
    cases hall : fs.toList.all fun f => (P.info? f.type).isSome with
    | false => simp [hall, runOp, rNo] at hop
    | true =>
      simp only [hall, cond_true] at hop
      cases hp : partsS P fs parts.toList with
      | none => simp [hp, runOp, rNo] at hop
      | some r =>
        simp only [hp, Option.map_some, Option.getD_some, runOp, rBuild] at hop
        split at hop
        · rename_i c' hf
          have hinf : ∀ f ∈ fs.toList, ∃ k, P.info? f.type = some k := fun f hf => by
            have := List.all_eq_true.1 hall f hf
            exact Option.isSome_iff_exists.1 this
          obtain ⟨C', hfill, hC⟩ := fillP_ok (a := a) (tot := i.zero.cells.length) (place := fun k => (fs.map fun f => (f.offset, P.cellsOf f.type))[k]?) (pt := partsS P fs) ht
            (fun r h => by simp [partsS] at h; exact h)
            (fun j x l r h => by
              unfold partsS at h
              split at h
              · rename_i f r' hf hr'
                simp only [Option.some.injEq] at h
                exact ⟨_, _, r', h.symm, hr', by simp [hf]⟩
              · simp at h) hp hz0 hf
          refine hfin C' c' hC ?_ hop
          have hmap : (fs.mapM fun f => (do pure (f.offset, ← sizeOf f.type) : Sem (Nat × Nat))).run P w = .ok (fs.map fun f => (f.offset, P.cellsOf f.type)) w :=
            run_mapMA fs fun f hf => by
              obtain ⟨k, hk⟩ := hinf f hf
              simp only [Sem.run_bind, run_siz hk, Result.andThen_ok, Sem.run_pure, cellsOf_eq hk]
          simp only [Instr.build, Sem.run_bind, run_zer h2 h3, Result.andThen_ok, run_und h1, hmp]
          rw [hmap]
          simp only [Result.andThen_ok, hfill, Sem.run_pure]
        · simp at hop
  | array n e =>
    rw [hd] at hop h1
    simp only at hop
    cases hie : P.info? e with
    | none => simp [hie, runOp, rNo] at hop
    | some k =>
      simp only [hie, Option.isSome_some, cond_true, Option.getD_some, runOp, rBuild] at hop
      split at hop
      · rename_i c' hf
        obtain ⟨C', hfill, hC⟩ := fillP_ok (a := a) (tot := i.zero.cells.length) (place := fun q => some (q * k.size, k.size)) (pt := fun l => some (partsA P e l)) ht
          (fun r h => by simp [partsA] at h; exact h)
          (fun j x l r h => by
            simp only [partsA, Option.some.injEq] at h
            exact ⟨_, _, _, h.symm, rfl, by rw [cellsOf_eq hie]⟩) rfl hz0 hf
        refine hfin C' c' hC ?_ hop
        simp only [Instr.build, Sem.run_bind, run_zer h2 h3, Result.andThen_ok, run_und h1, hmp, run_siz hie, hfill, Sem.run_pure]
      · simp at hop
  | _ => rw [hd] at hop; simp [runOp, rNo] at hop
end
end Go.VM

namespace Go.VM
open Go

section
variable {P : Program} {σ : Nat → Loc} {D : Nat → Prop} {s s' : S} {w : World} {a : Act} {tm : T AV} {v : AV} {o : Oper}

theorem op_builtin {c : Call} {b : Builtin} (ho : o.op = .call c) (hb : c.callee = .builtin b) (hop : runOp (cBuiltin P b c.argTypes (c.args.toList.map cOpd)) tm s = .val v s') (hw : RW P σ D s w) (ht : Rt σ D tm a.tmps) (hoff : Off D s.nx s'.nx) :
    Res P σ D s w v s' ((execOp a.eval o).run P w) := by
  have hno : ∀ {x : AOp}, x = .bad "builtin" → runOp x tm s = .val v s' → False := fun e h => by rw [e] at h; simp [runOp, rNo] at h
  generalize hl : c.args.toList.map cOpd = l at hop
  cases b with
  | len =>
    rcases l with _ | ⟨x, _ | ⟨y, l⟩⟩
    · exact (hno rfl hop).elim
    · obtain ⟨p, hp, rfl⟩ := map1 hl
      exact op_len ho hb (arr_of hp) hop hw ht
    · exact (hno rfl hop).elim
  | append =>
    rcases l with _ | ⟨x, _ | ⟨y, _ | ⟨z, l⟩⟩⟩
    · exact (hno rfl hop).elim
    · exact (hno rfl hop).elim
    · obtain ⟨p, q, hp, rfl, rfl⟩ := map2 hl
      exact op_app ho hb (arr_of hp) hop hw ht hoff
    · exact (hno rfl hop).elim
  | copy =>
    rcases l with _ | ⟨x, _ | ⟨y, _ | ⟨z, l⟩⟩⟩
    · exact (hno rfl hop).elim
    · exact (hno rfl hop).elim
    · obtain ⟨p, q, hp, rfl, rfl⟩ := map2 hl
      exact op_cpy ho hb (arr_of hp) hop hw ht
    · exact (hno rfl hop).elim
  | delete =>
    rcases l with _ | ⟨x, _ | ⟨y, _ | ⟨z, l⟩⟩⟩
    · exact (hno rfl hop).elim
    · exact (hno rfl hop).elim
    · obtain ⟨p, q, hp, rfl, rfl⟩ := map2 hl
      exact op_mdel ho hb (arr_of hp) hop hw ht
    · exact (hno rfl hop).elim
  | min =>
    have hop : runOp (.mnx false l) tm s = .val v s' := by
      rcases l with _ | ⟨x, _ | ⟨y, _ | ⟨z, l⟩⟩⟩ <;> exact hop
    rw [← hl] at hop
    exact op_mnx (mx := false) ho hb hop hw ht
  | max =>
    have hop : runOp (.mnx true l) tm s = .val v s' := by
      rcases l with _ | ⟨x, _ | ⟨y, _ | ⟨z, l⟩⟩⟩ <;> exact hop
    rw [← hl] at hop
    exact op_mnx (mx := true) ho hb hop hw ht
  | _ => exact (hno (by rcases l with _ | ⟨x, _ | ⟨y, _ | ⟨z, l⟩⟩⟩ <;> rfl) hop).elim

theorem op_binop {op : BinOp} {t t' : TypeId} {x y : Operand} (ho : o.op = .binOp op t x y t') (hop : runOp (cOp P (.binOp op t x y t')) tm s = .val v s') (hw : RW P σ D s w) (ht : Rt σ D tm a.tmps) :
    Res P σ D s w v s' ((execOp a.eval o).run P w) := by
  by_cases h1 : op = .eql
  · subst h1
    simp only [cOp] at hop
    split at hop
    · rename_i k hk; exact op_eq (neg := false) rfl ho hk hop hw ht
    · simp [runOp, rNo] at hop
  · by_cases h2 : op = .neq
    · subst h2
      simp only [cOp] at hop
      split at hop
      · rename_i k hk; exact op_eq (neg := true) rfl ho hk hop hw ht
      · simp [runOp, rNo] at hop
    · have : cOp P (.binOp op t x y t') = .bin op (cOpd x) (cOpd y) := by
        cases op <;> first | rfl | exact absurd rfl h1 | exact absurd rfl h2
      rw [this] at hop
      exact op_bin ho h1 h2 hop hw ht

/-- EVERY OPERATION THAT IS NO CALL OF A FUNCTION -/
theorem op_ok (hop : runOp (cOp P o.op) tm s = .val v s') (hw : RW P σ D s w) (ht : Rt σ D tm a.tmps) (hoff : Off D s.nx s'.nx) :
    Res P σ D s w v s' ((execOp a.eval o).run P w) := by
  have hbad : ∀ {why : String}, runOp (.bad why) tm s = .val v s' → False := fun h => by simp [runOp, rNo] at h
  generalize ho : o.op = op at hop
  cases op with
  | move x => exact op_move (.inl ho) hop hw ht
  | assign x => exact op_move (.inr ho) hop hw ht
  | pick c x y => exact op_pick ho hop hw ht
  | alloc e => exact op_alloc ho hop hw hoff
  | box e x => exact op_box ho hop hw ht hoff
  | build t parts => exact op_build ho hop hw ht
  | buildSlice t len parts => exact op_bsl ho hop hw ht hoff
  | load t x => exact op_load ho hop hw ht
  | store t x y => exact op_store ho hop hw ht
  | nilCheck x => exact op_nilck ho hop hw ht
  | binOp op t x y t' => exact op_binop ho hop hw ht
  | unOp op t x => exact op_un ho hop hw ht
  | convert src dst x => exact op_conv ho hop hw ht hoff
  | sliceToArrayPointer t x => exact op_s2ap ho hop hw ht
  | makeInterface t x => exact op_mkI ho hop hw ht
  | makeFunc f first caps =>
    cases f with
    | func f => exact op_mkF ho hop hw ht
    | _ => exact (hbad hop).elim
  | makeMap t r => exact op_mkM ho hop hw hoff
  | makeSlice t l c => exact op_mkS ho hop hw ht hoff
  | slice t x lo hi mx => exact op_slc ho hop hw ht
  | fieldAddr t x f => exact op_fadr ho hop hw ht
  | field t x f => exact op_fld ho hop hw ht
  | indexAddr t x i => exact op_iadr ho hop hw ht
  | index t x i => exact op_idx ho hop hw ht
  | lookup t x i ok => exact op_lkp ho hop hw ht
  | mapUpdate t m k x => exact op_mupd (.inl ho) hop hw ht
  | insert t m k x =>
    cases hkk : keyKind P t with
    | none => simp [cOp, hkk, orBad, runOp, rNo] at hop
    | some kk => exact op_mupd (.inr ho) (by simpa only [cOp, hkk, orBad, Option.map_some, Option.getD_some] using hop) hw ht
  | typeAssert x xt t ok => exact op_tass ho hop hw ht
  | extract x i => exact op_ext ho hop hw ht
  | mapEntry t m k =>
    exfalso
    simp only [cOp, orBad] at hop
    generalize hq : (Option.getD _ _ : AOp) = q at hop
    have : (∃ z m' k', q = .ment z m' k') ∨ q = .bad "mapEntry" := by
      rw [← hq]
      cases P.underlying t with
      | none => exact .inr rfl
      | some d =>
        cases d with
        | map k e => cases hti : tyI P e with
          | none => right; simp [hti]
          | some i => left; simp [hti]
        | _ => exact .inr rfl
    rcases this with ⟨z, m', k', rfl⟩ | rfl <;> simp [runOp, rNo] at hop
  | entryStore t m s x => simp [cOp, runOp, rNo] at hop
  | call c =>
    simp only [cOp] at hop
    split at hop
    · simp [runOp, rCall] at hop
    · simp only [runOp, rCallv] at hop
      split at hop <;> simp at hop
    · rename_i b hb; exact op_builtin ho hb hop hw ht hoff
    · exact (hbad hop).elim
  | _ => exact (hbad hop).elim
end
end Go.VM

namespace Go.VM
open Go

section
variable {P : Program} {σ : Nat → Loc} {D : Nat → Prop} {s s' : S} {w : World} {a : Act} {tm : T AV} {v : AV} {o : Oper}

def isCallA : AOp → Bool
  | .call .. => true
  | .callv .. => true
  | _ => false

theorem nc_getD {x : Option AOp} {why : String} (h : ∀ y, x = some y → isCallA y = false) : isCallA (orBad x why) = false := by
  cases x with
  | none => rfl
  | some y => exact h y rfl

theorem nc_cBuiltin (b : Builtin) (ats : Array Nat) (args : List Opd) : isCallA (cBuiltin P b ats args) = false := by
  unfold cBuiltin
  split
  all_goals first
    | rfl
    | (refine nc_getD fun y hy => ?_
       simp only [Option.bind_eq_bind, Option.bind_eq_some_iff, Option.map_eq_some_iff, pure] at hy
       obtain ⟨p, _, hy⟩ := hy
       try obtain ⟨q, _, hy⟩ := hy
       (repeat' split at hy)
       all_goals first
         | (cases hy; done)
         | (simp only [Option.some.injEq] at hy; subst hy; rfl)
         | (subst hy; rfl)
         | (simp only [Option.bind_eq_some_iff] at hy
            obtain ⟨p, _, q, _, r, _, hy⟩ := hy
            (repeat' split at hy) <;> first | (cases hy; done) | (simp only [Option.some.injEq] at hy; subst hy; rfl))
         | (simp only [Option.bind_eq_some_iff] at hy
            obtain ⟨p, _, hy⟩ := hy
            simp only [Option.some.injEq] at hy; subst hy; rfl))

theorem nc_op {op : Op} (h : ∀ c, op ≠ .call c) : isCallA (cOp P op) = false := by
  cases op with
  | call c => exact absurd rfl (h c)
  | binOp op t x y t' => cases op <;> simp only [cOp] <;> first | rfl | (split <;> rfl)
  | makeFunc f first caps => cases f <;> rfl
  | _ =>
    simp only [cOp]
    first
    | rfl
    | (split <;> rfl)
    | (refine nc_getD fun y hy => ?_
       try simp only [Option.bind_eq_bind, pure] at hy
       repeat' (first
         | rfl
         | (obtain ⟨p, _, hy⟩ := hy)
         | (cases hy; done)
         | (cases hy; rfl)
         | (simp only [Option.map_eq_some_iff] at hy; obtain ⟨p, _, rfl⟩ := hy; rfl)
         | (simp only [Option.bind_eq_some_iff] at hy; obtain ⟨p, _, hy⟩ := hy)
         | (simp only [cond_eq_ite] at hy)
         | (split at hy)))

theorem runOp_call {op : AOp} (h : (∃ f args, runOp op tm s = .call f args) ∨ ∃ l args, runOp op tm s = .yld l args) : isCallA op = true := by
  cases op
  case call => rfl
  case callv => rfl
  all_goals
    exfalso
    rcases h with ⟨f, args, h⟩ | ⟨f, args, h⟩ <;> simp only [runOp] at h
  all_goals
    try simp only [rMov, rPick, rAlloc, rBox, rBuild, rBsl, rLoad, rStore, rNilck, rBin, rEq, rUn, rCvI, rCvSB, rCvBS, rCvSS, rCvLL, rS2ap, rMkI, rMkF, rMkM, rMkS, rSlc, rFadr, rFld, rIadr, rIdx, rLkp, rMupd, rMdel, rTass, rExt, rLen, rApp, rCpy, rMnx, rNo, valO, newB, appV, appNew, cpyV, cpyT, lkpR] at h
    repeat' split at h
  all_goals first
    | (cases h; done)
    | skip

theorem op_fcall {f : Nat} {args : List AV} (hop : runOp (cOp P o.op) tm s = .call f args) (ht : Rt σ D tm a.tmps) :
    ∃ l, Rs σ D args l ∧ ∀ w, (execOp a.eval o).run P w = (callFunc f ⟨l⟩).run P w := by
  have hc : isCallA (cOp P o.op) = true := runOp_call (.inl ⟨_, _, hop⟩)
  by_cases hn : ∀ c, o.op ≠ .call c
  · rw [nc_op hn] at hc; simp at hc
  · obtain ⟨c, ho⟩ := Classical.not_forall.1 hn
    have ho := Classical.not_not.1 ho
    rw [ho] at hop hc
    simp only [cOp] at hop hc
    have hargs : ∀ (x y : List Value), (⟨x⟩ : Array Value) ++ c.args.map a.eval ++ ⟨y⟩ = ⟨x ++ c.args.toList.map a.eval ++ y⟩ := fun x y => by apply Array.ext'; simp
    split at hop
    · rename_i g hg
      simp only [runOp, rCall, Nx.call.injEq] at hop
      obtain ⟨rfl, rfl⟩ := hop
      refine ⟨_, evs_ok ht c.args.toList, fun w => ?_⟩
      simp only [execOp, ho, resolve, hg, Deferred.ofValue, Act.eval, Sem.run_bind, Sem.run_pure, Result.andThen_ok, invoke]
      have := hargs [] []
      rw [List.nil_append, List.append_nil] at this
      rw [← this]
    · rename_i x hne hg
      simp only [runOp, rCallv] at hop
      have hx := ev ht x
      split at hop
      · rename_i g first caps he
        rw [he] at hx
        simp only [Nx.call.injEq] at hop
        obtain ⟨rfl, rfl⟩ := hop
        generalize hv : a.eval x = q at hx
        cases hx with
        | fn _ _ _ fs cs h1 h2 =>
          refine ⟨_, (h1.append (evs_ok ht c.args.toList)).append h2, fun w => ?_⟩
          simp only [execOp, ho, resolve, hg, Deferred.ofValue, hv, Sem.run_bind, Sem.run_pure, Result.andThen_ok, invoke]
          rw [hargs]
      · simp at hop
      · simp at hop
    · rename_i b hb
      rw [hb] at hc
      simp only [nc_cBuiltin] at hc
      simp at hc
    · simp [runOp, rNo] at hop

theorem op_yield {l : Nat} {args : List AV} (hop : runOp (cOp P o.op) tm s = .yld l args) (ht : Rt σ D tm a.tmps) :
    ∃ m, Rs σ D args m ∧ D l ∧ ∀ w, (execOp a.eval o).run P w = (Instr.yield (σ l).blk ⟨m⟩).run P w := by
  have hc : isCallA (cOp P o.op) = true := runOp_call (.inr ⟨_, _, hop⟩)
  by_cases hn : ∀ c, o.op ≠ .call c
  · rw [nc_op hn] at hc; simp at hc
  · obtain ⟨c, ho⟩ := Classical.not_forall.1 hn
    have ho := Classical.not_not.1 ho
    rw [ho] at hop hc
    simp only [cOp] at hop hc
    split at hop
    · simp [runOp, rCall] at hop
    · rename_i x hne hg
      simp only [runOp, rCallv] at hop
      have hx := ev ht x
      split at hop
      · simp at hop
      · rename_i l' he
        rw [he] at hx
        simp only [Nx.yld.injEq] at hop
        obtain ⟨rfl, rfl⟩ := hop
        generalize hv : a.eval x = q at hx
        cases hx with
        | yld _ hD =>
          refine ⟨_, evs_ok ht c.args.toList, hD, fun w => ?_⟩
          have : c.args.map a.eval = ⟨c.args.toList.map a.eval⟩ := by apply Array.ext'; simp
          simp only [execOp, ho, resolve, hg, Deferred.ofValue, hv, Sem.run_bind, Sem.run_pure, Result.andThen_ok, invoke, this]
          simp
      · simp at hop
    · rename_i b hb
      rw [hb] at hc
      simp only [nc_cBuiltin] at hc
      simp at hc
    · simp [runOp, rNo] at hop
end
end Go.VM

