/-
  Part of the proof by an abstract machine (OpsK OpsL): what each theorem says stands at it; it asks what its own hypotheses say.
-/
import Derived.Test.YtndjpgelhpfgoaaGreatDoorVd
import Derived.WideKeyRuns
namespace Go.VM
open Go

section
variable {P : Program} {σ : Nat → Loc} {D : Nat → Prop} {s s' : S} {w : World} {a : Act} {tm : T AV} {v : AV} {o : Oper}

/-- the types of keys -/
inductive KD (P : Program) : KeyK → TypeDesc → Prop
  | num (q : IntKind) : KD P .num (.int q)
  | str : KD P .str .string
  | arr (n : Nat) (e : TypeId) (q : IntKind) (i : TypeInfo) : P.underlying e = some (.int q) → P.info? e = some i → i.size = 1 → KD P (.arr n) (.array n e)

theorem keyKind_ok {t : TypeId} {kk : KeyK} (h : keyKind P t = some kk) : ∃ k e d, P.underlying t = some (.map k e) ∧ P.underlying k = some d ∧ KD P kk d := by
  unfold keyKind at h
  split at h
  · rename_i k e hu
    refine ⟨k, e, ?_⟩
    split at h
    · rename_i q hk
      simp only [Option.some.injEq] at h; subst h
      exact ⟨_, hu, hk, .num q⟩
    · rename_i hk
      simp only [Option.some.injEq] at h; subst h
      exact ⟨_, hu, hk, .str⟩
    · rename_i n e' hk
      split at h
      · rename_i q i he hi
        split at h
        · rename_i hs
          simp only [Option.some.injEq] at h; subst h
          exact ⟨_, hu, hk, .arr n e' q i he hi (Nat.eq_of_beq_eq_true hs)⟩
        · simp at h
      · simp at h
    · simp at h
  · simp at h

theorem allInt_cons {x : AV} {l : List AV} (h : allInt (x :: l) = true) : (∃ k n, x = .int k n) ∧ allInt l = true := by
  cases x <;> simp [allInt] at h
  exact ⟨⟨_, _, rfl⟩, h⟩

/-- rows of ints are told by what they are seen as -/
theorem ints_det : ∀ {l : List AV} {m m' : List Value}, allInt l = true → Rs σ D l m → Rs σ D l m' → m = m'
  | [], _, _, _, h, h' => by cases h; cases h'; rfl
  | x :: l, _, _, hi, h, h' => by
    obtain ⟨⟨k, n, rfl⟩, hl⟩ := allInt_cons hi
    cases h with
    | cons _ y _ m h1 h2 => cases h' with
      | cons _ y' _ m' h1' h2' => rw [int_of h1, int_of h1', ints_det hl h2 h2']

theorem key_det {kk : KeyK} {x : AV} {y y' : Value} (hk : keyOk kk x = true) (h : R σ D x y) (h' : R σ D x y') : y = y' := by
  cases kk <;> cases x <;> simp only [keyOk] at hk <;> try (simp at hk; done)
  · rw [int_of h, int_of h']
  · rw [(str_of h).1, (str_of h').1]
  · obtain ⟨l, rfl, hl⟩ := agg_of h
    obtain ⟨l', rfl, hl'⟩ := agg_of h'
    split at hk
    · rw [ints_det hk hl hl']
    · simp at hk

theorem enc_beq {x y : List Nat} (hx : Byt x) (hy : Byt y) : (enc x == enc y) = eqS x y := by
  rw [eqS_ok hx hy]
  have : (enc x == enc y) = ((enc x).data == (enc y).data) := rfl
  rw [this, Bool.eq_iff_iff]
  simp [enc]

theorem eqS_self (l : List Nat) : eqS l l = true := by
  induction l with
  | nil => rfl
  | cons a l ih => simp [eqS, ih]

theorem ints_bits : ∀ {l : List AV} {m : List Value}, allInt l = true → Rs σ D l m → ((m.zip m).all fun (x, y) => Instr.sameBits 9999 x y) = true
  | [], _, _, h => by cases h; rfl
  | x :: l, _, hi, h => by
    obtain ⟨⟨k, n, rfl⟩, hl⟩ := allInt_cons hi
    cases h with
    | cons _ y _ m h1 h2 =>
      rw [int_of h1]
      simp only [List.zip_cons_cons, List.all_cons, ints_bits hl h2, Bool.and_true]
      simp [Instr.sameBits]

theorem key_bits {kk : KeyK} {x : AV} {y : Value} (hk : keyOk kk x = true) (h : R σ D x y) : Instr.sameBits 10000 y y = true := by
  cases kk <;> cases x <;> simp only [keyOk] at hk <;> try (simp at hk; done)
  · rw [int_of h]; simp [Instr.sameBits]
  · rw [(str_of h).1]; simp only [Instr.sameBits]; rw [enc_beq (str_of h).2 (str_of h).2, eqS_self]
  · obtain ⟨l, rfl, hl⟩ := agg_of h
    split at hk
    · show ((⟨l⟩ : Array Value).size == (⟨l⟩ : Array Value).size && (l.zip l).all fun (x, y) => Instr.sameBits 9999 x y) = true
      rw [ints_bits hk hl]; simp
    · simp at hk

theorem eqS_eq : ∀ {x y : List Nat}, eqS x y = true → x = y
  | [], [], _ => rfl
  | [], _ :: _, h => by simp [eqS] at h
  | _ :: _, [], h => by simp [eqS] at h
  | a :: x, b :: y, h => by
    simp only [eqS, Bool.and_eq_true] at h
    rw [Nat.eq_of_beq_eq_true h.1, eqS_eq h.2]

theorem eqIs_eq : ∀ {x y : List AV}, eqIs x y = some true → x = y
  | [], [], _ => rfl
  | [], _ :: _, h => by simp [eqIs] at h
  | x :: l, [], h => by cases x <;> simp [eqIs] at h
  | x :: l, y :: m, h => by
    unfold eqIs at h
    split at h
    · rename_i e1 e2; simp at e1
    · rename_i k p l' k' q m' e1 e2
      simp only [List.cons.injEq] at e1 e2
      obtain ⟨rfl, rfl⟩ := e1
      obtain ⟨rfl, rfl⟩ := e2
      split at h
      · rename_i hk
        split at h
        · rename_i hq
          rw [kEq_eq hk, eqIs_eq h]
          rw [ieq_eq] at hq
          simp at hq; rw [hq]
        · simp at h
      · simp at h
    · simp at h

theorem eqK_eq {x y : AV} (h : eqK x y = some true) : x = y := by
  unfold eqK at h
  split at h
  · split at h
    · rw [eqIs_eq h]
    · simp at h
  · simp at h; rw [eqS_eq h]
  · split at h
    · rename_i hk
      simp at h
      rw [ieq_eq] at h
      simp at h; rw [kEq_eq hk, h]
    · simp at h
  · simp at h

theorem checkKey_ok {kk : KeyK} {k : TypeId} {d : TypeDesc} {x : AV} {y : Value} (hu : P.underlying k = some d) (hd : KD P kk d) (hk : keyOk kk x = true) (h : R σ D x y) (em : Bool) (f : Nat) :
    (Instr.checkKey em (f + 1 + 1) k y).run P w = .ok () w := by
  cases hd with
  | num q =>
    cases x <;> simp only [keyOk] at hk <;> try (simp at hk; done)
    rw [int_of h]
    simp only [Instr.checkKey, Sem.run_bind, run_und hu, Result.andThen_ok]; rfl
  | str =>
    cases x <;> simp only [keyOk] at hk <;> try (simp at hk; done)
    rw [(str_of h).1]
    simp only [Instr.checkKey, Sem.run_bind, run_und hu, Result.andThen_ok]; rfl
  | arr n e q i he hi hs =>
    cases x <;> simp only [keyOk] at hk <;> try (simp at hk; done)
    rename_i cs
    obtain ⟨l, rfl, hl⟩ := agg_of h
    split at hk
    · rename_i hn
      have hn' : cs.length = n := Nat.eq_of_beq_eq_true hn
      rw [Instr.checkKey]
      simp only [Sem.run_bind, run_und hu, Result.andThen_ok]
      simp only [Std.Legacy.Range.forIn_eq_forIn_range', Std.Legacy.Range.size, Nat.sub_zero, Nat.add_one_sub_one, Nat.div_one]
      have each : ∀ j ∈ List.range' 0 n, ∃ q' m, (⟨l⟩ : Array Value)[j]? = some (.int q' m) := by
        intro j hj
        have hj' : j < n := by simpa [List.mem_range'] using hj
        have hall : ∀ {cs : List AV} {l : List Value}, allInt cs = true → Rs σ D cs l → ∀ j, j < cs.length → ∃ q' m, l[j]? = some (.int q' m) := by
          intro cs
          induction cs with
          | nil => intro l _ _ j hj; simp at hj
          | cons c cs ih =>
            intro l hi hr j hj
            obtain ⟨⟨k, m, rfl⟩, hi'⟩ := allInt_cons hi
            cases hr with
            | cons _ y _ l' h1 h2 =>
              cases j with
              | zero => exact ⟨k, m, by rw [int_of h1]; rfl⟩
              | succ j => simpa using ih hi' h2 j (by simpa using hj)
        simpa using hall hk hl j (by omega)
      generalize List.range' 0 n = is at each
      induction is with
      | nil => simp
      | cons j is ih =>
        obtain ⟨q', m, hj⟩ := each j (by simp)
        have hp : (part e ⟨l⟩ (j * 1)).run P w = .ok (.int q' m) w := by
          simp only [part, Sem.run_bind, run_agg he, Result.andThen_ok, isAggD, Nat.mul_one, hj]
          simp
        have hc : (Instr.checkKey em (f + 1) e (.int q' m)).run P w = .ok () w := by
          simp only [Instr.checkKey, Sem.run_bind, run_und he, Result.andThen_ok]; rfl
        simp only [List.forIn_cons, Sem.run_bind, run_siz hi, hs, Result.andThen_ok, hp, hc, Sem.run_pure]
        exact ih (fun y hy => each y (by simp [hy]))
    · simp at hk

/-- what a search finds -/
def Found (x : AV) (es : List (AV × AV)) (E : List MapEntry) (j : Nat) : Option (Nat × AV) → Option (Nat × Value) → Prop
  | none, none => True
  | some (i, v), some (i', y) => i' = i ∧ j ≤ i ∧ ∃ en, E[i - j]? = some en ∧ y = en.val ∧ es[i - j]? = some (x, v)
  | _, _ => False

theorem Found.up {x : AV} {p : AV × AV} {es : List (AV × AV)} {e : MapEntry} {E : List MapEntry} {j : Nat} {r : Option (Nat × AV)} {r' : Option (Nat × Value)} (h : Found x es E (j + 1) r r') : Found x (p :: es) (e :: E) j r r' := by
  cases r with
  | none => cases r' with
    | none => trivial
    | some _ => exact h.elim
  | some q => cases r' with
    | none => exact h.elim
    | some q' =>
      obtain ⟨h1, h2, en, h3, h4, h5⟩ := h
      have : q.1 - j = (q.1 - (j + 1)) + 1 := by omega
      exact ⟨h1, by omega, en, by rw [this]; exact h3, h4, by rw [this]; exact h5⟩

theorem findNow_ok {kk : KeyK} {d : TypeDesc} (hd : KD P kk d) (hna : ∀ n, kk ≠ .arr n) {x : AV} {y : Value} (hk : keyOk kk x = true) (h : R σ D x y) :
    ∀ {es : List (AV × AV)} {E : List MapEntry} {j : Nat} {r : Option (Nat × AV)}, RE σ D es E → findK x es j = some r → ∃ r', Instr.findNow d y E j = some r' ∧ Found x es E j r r'
  | _, _, j, r, .nil, hf => by simp [findK] at hf; subst hf; exact ⟨none, rfl, trivial⟩
  | _, _, j, r, .cons k v e l m h1 h2 h3, hf => by
    unfold findK at hf
    have hs : ∀ b, eqK x k = some b → Instr.sameNow d y e.key = some b := by
      intro b hb
      cases hd with
      | num q =>
        cases x <;> simp only [keyOk] at hk <;> try (simp at hk; done)
        cases k <;> simp only [eqK] at hb <;> try (simp at hb; done)
        rw [int_of h, int_of h1]
        split at hb
        · rename_i hkk
          simp at hb; subst hb
          simp only [Instr.sameNow, kEq_eq hkk, if_true, ieq_eq]
        · simp at hb
      | str =>
        cases x <;> simp only [keyOk] at hk <;> try (simp at hk; done)
        cases k <;> simp only [eqK] at hb <;> try (simp at hb; done)
        rw [(str_of h).1, (str_of h1).1]
        simp at hb; subst hb
        simp only [Instr.sameNow, enc_beq (str_of h).2 (str_of h1).2]
      | arr n => exact absurd rfl (hna n)
    split at hf
    · rename_i hb
      simp at hf; subst hf
      refine ⟨some (j, e.val), ?_, rfl, Nat.le_refl _, e, by simp, rfl, ?_⟩
      · simp only [Instr.findNow, hs _ hb]
      · rw [eqK_eq hb]; simp
    · rename_i hb
      obtain ⟨r', h4, h5⟩ := findNow_ok hd hna hk h h3 hf
      exact ⟨r', by simp only [Instr.findNow, hs _ hb]; exact h4, h5.up⟩
    · simp at hf

theorem findAsking_ok {n : Nat} {k : TypeId} {d : TypeDesc} (hu : P.underlying k = some d) (hd : KD P (.arr n) d) {x : AV} {y : Value} (hk : keyOk (.arr n) x = true) (h : R σ D x y) :
    ∀ {es : List (AV × AV)} {E : List MapEntry} {j : Nat} {r : Option (Nat × AV)}, RE σ D es E → findK x es j = some r → ∃ r', (Instr.findAsking k y E j).run P w = .ok r' w ∧ Found x es E j r r'
  | _, _, j, r, .nil, hf => by simp [findK] at hf; subst hf; exact ⟨none, rfl, trivial⟩
  | _, _, j, r, .cons kv v e l m h1 h2 h3, hf => by
    unfold findK at hf
    have hs : ∀ b, eqK x kv = some b → (Op.equal k y e.key).run P w = .ok b w := by
      intro b hb
      cases hd with
      | arr _ e' q i he hi hsz =>
        cases x <;> simp only [keyOk] at hk <;> try (simp at hk; done)
        cases kv <;> simp only [eqK] at hb <;> try (simp at hb; done)
        rename_i cs ds
        obtain ⟨lx, hlx, hrx⟩ := agg_of h
        obtain ⟨ly, hly, hry⟩ := agg_of h1
        split at hk
        · rename_i hn
          have hn' : cs.length = n := Nat.eq_of_beq_eq_true hn
          split at hb
          · rename_i hl
            have hl' : cs.length = ds.length := Nat.eq_of_beq_eq_true hl
            rw [hlx, hly]
            refine equal_run (fun d w => ?_) w
            rw [run_equalIn_array w (d + 1) _ _ hu hi, cellsOf_eq hi, hsz, List.range_eq_range']
            exact eqItems_ok d he lx ly w n 0 cs ds b (by simpa using hrx) (by simpa using hry) hn' (by omega) hb
          · simp at hb
        · simp at hk
    split at hf
    · rename_i hb
      simp at hf; subst hf
      refine ⟨some (j, e.val), ?_, rfl, Nat.le_refl _, e, by simp, rfl, ?_⟩
      · simp only [Instr.findAsking, Sem.run_bind, hs _ hb, Result.andThen_ok, if_true, Sem.run_pure]
      · rw [eqK_eq hb]; simp
    · rename_i hb
      obtain ⟨r', h4, h5⟩ := findAsking_ok hu hd hk h h3 hf
      refine ⟨r', ?_, h5.up⟩
      simp only [Instr.findAsking, Sem.run_bind, hs _ hb, Result.andThen_ok, Bool.false_eq_true, if_false]
      exact h4
    · simp at hf

theorem findKey_ok {kk : KeyK} {k : TypeId} {d : TypeDesc} (hu : P.underlying k = some d) (hd : KD P kk d) {x : AV} {y : Value} (hk : keyOk kk x = true) (h : R σ D x y)
    {es : List (AV × AV)} {E : List MapEntry} {r : Option (Nat × AV)} (hE : RE σ D es E) (hf : findK x es 0 = some r) : ∃ r', (Instr.findKey k y E).run P w = .ok r' w ∧ Found x es E 0 r r' := by
  by_cases hna : ∀ n, kk ≠ .arr n
  · obtain ⟨r', h1, h2⟩ := findNow_ok hd hna hk h hE hf
    refine ⟨r', ?_, h2⟩
    simp only [Instr.findKey, Sem.run_bind, run_und hu, Result.andThen_ok, h1, Sem.run_pure]
  · have : ∃ n, kk = .arr n := by
      cases kk with
      | arr n => exact ⟨n, rfl⟩
      | num => exact absurd (fun n => by simp) hna
      | str => exact absurd (fun n => by simp) hna
    obtain ⟨n, rfl⟩ := this
    obtain ⟨r', h1, h2⟩ := findAsking_ok (w := w) hu hd hk h hE hf
    refine ⟨r', ?_, h2⟩
    rw [run_findKey_eq w (by rw [hu]; cases hd; rfl)]
    exact h1

theorem RE.at {es : List (AV × AV)} {E : List MapEntry} (h : RE σ D es E) : ∀ {i : Nat} {p : AV × AV} {en : MapEntry}, es[i]? = some p → E[i]? = some en → R σ D p.1 en.key ∧ R σ D p.2 en.val := by
  induction h with
  | nil => intro i p en h1; simp at h1
  | cons k v e l m h1 h2 h3 ih =>
    intro i p en e1 e2
    cases i with
    | zero => simp at e1 e2; subst e1; subst e2; exact ⟨h1, h2⟩
    | succ i => exact ih (by simpa using e1) (by simpa using e2)
end
end Go.VM

namespace Go.VM
open Go

section
variable {P : Program} {σ : Nat → Loc} {D : Nat → Prop} {s s' : S} {w : World} {a : Act} {tm : T AV} {v : AV} {o : Oper}

theorem RW.map (hw : RW P σ D s w) {r : Nat} {es : List (AV × AV)} (h : s.get r = .map es) :
    ∃ (E : Array MapEntry) (ck : Nat), w.heap[(σ r).blk]? = some (.map E ck) ∧ RE σ D es E.toList ∧ (E.toList.map (·.born)).Nodup ∧ ∀ e ∈ E.toList, e.born < ck := by
  have := hw.obj r (by rw [h]; simp)
  rw [h] at this; exact this

theorem op_lkp {t : TypeId} {x i : Operand} {ok : Bool} (ho : o.op = .lookup t x i ok) (hop : runOp (cOp P (.lookup t x i ok)) tm s = .val v s') (hw : RW P σ D s w) (ht : Rt σ D tm a.tmps) :
    Res P σ D s w v s' ((execOp a.eval o).run P w) := by
  simp only [cOp] at hop
  have hx := ev ht x
  have hi := ev ht i
  cases hkk : keyKind P t with
  | none =>
    exfalso
    cases hu : P.underlying t with
    | none => simp [hu, orBad, runOp, rNo] at hop
    | some d =>
      cases d with
      | map k e => cases ht : tyI P e <;> simp [hu, ht, hkk, orBad, runOp, rNo] at hop
      | _ => simp [hu, orBad, runOp, rNo] at hop
  | some kk =>
    obtain ⟨k, e, d, hu, huk, hd⟩ := keyKind_ok hkk
    cases hti : tyI P e with
    | none => simp [hu, hti, orBad, runOp, rNo] at hop
    | some ie =>
      obtain ⟨j, z, h1, h2, h3, h4, h5, h6⟩ := tyI_ok hti
      simp only [hu, hti, hkk, orBad, Option.bind_eq_bind, Option.bind_some, Option.map_some, Option.getD_some, runOp, rLkp] at hop
      have hgo : ∀ (es : List (AV × AV)) (E : Array MapEntry) (hE : RE σ D es E.toList)
          (hget : ∀ r', (Instr.checkKey E.isEmpty 10000 k (a.eval i)).run P w = .ok () w → (Instr.findKey k (a.eval i) E.toList).run P w = .ok r' w →
            (Instr.lookup t (a.eval x) (a.eval i) ok).run P w = .ok (match (r' : Option (Nat × Value)) with | some q => (if ok then .tuple #[q.2, .bool true] else q.2) | none => (if ok then .tuple #[z, .bool false] else z)) w)
          (hk : keyOk kk (evalO tm (cOpd i)) = true)
          (hop : (match findK (evalO tm (cOpd i)) es 0 with
            | some (some (_, v)) => lkpR ok s v true
            | some none => lkpR ok s ie.zero false
            | none => .no) = .val v s'), Res P σ D s w v s' ((execOp a.eval o).run P w) := by
        intro es E hE hget hk hop
        have hfin : ∀ (y : Value) (yv : AV) (b : Bool), R σ D yv y → lkpR ok s yv b = .val v s' → (Instr.lookup t (a.eval x) (a.eval i) ok).run P w = .ok (if ok then .tuple #[y, .bool b] else y) w → Res P σ D s w v s' ((execOp a.eval o).run P w) := by
          intro y yv b hy hl hr
          have hex : (execOp a.eval o).run P w = .ok (.value (if ok then .tuple #[y, .bool b] else y)) w := by
            simp only [execOp, ho, Sem.run_bind, hr, Result.andThen_ok, Sem.run_pure]
          unfold lkpR at hl
          split at hl
          · obtain ⟨rfl, rfl⟩ := val_inj hl
            exact Res.of hex hw (.tup _ _ (.cons _ _ _ _ hy (.cons _ _ _ _ (.bool _) .nil)))
          · obtain ⟨rfl, rfl⟩ := val_inj hl
            exact Res.of hex hw hy
        have hck := checkKey_ok (w := w) huk hd hk hi E.isEmpty 9998
        split at hop
        · rename_i i' v' hf
          obtain ⟨r', hr, hF⟩ := findKey_ok (w := w) huk hd hk hi hE hf
          cases r' with
          | none => exact hF.elim
          | some q =>
            obtain ⟨q1, y⟩ := q
            obtain ⟨e1, _, en, e2, rfl, e3⟩ := hF
            refine hfin _ _ _ (hE.at e3 e2).2 hop ?_
            exact hget _ hck hr
        · rename_i hf
          obtain ⟨r', hr, hF⟩ := findKey_ok (w := w) huk hd hk hi hE hf
          cases r' with
          | some q => exact hF.elim
          | none =>
            refine hfin z ie.zero false (by rw [h6]; exact toAV_ok σ D z) hop ?_
            exact hget _ hck hr
        · simp at hop
      split at hop
      · simp at hop
      · rename_i hk
        split at hop
        · rename_i he
          rw [he] at hx
          have hv : a.eval x = .map none := by generalize a.eval x = q at hx; cases hx; rfl
          refine hgo [] #[] .nil ?_ hk hop
          intro r' c1 c2
          cases r' <;> simp only [Instr.lookup, Sem.run_bind, run_und hu, Result.andThen_ok, hv, Sem.run_pure, c1, c2, run_zer h2 h3]
        · rename_i r he
          rw [he] at hx
          obtain ⟨hv, hD⟩ := map_of hx
          split at hop
          · rename_i es hg
            obtain ⟨E, ck, g1, g2, g3⟩ := hw.map hg
            refine hgo es E g2 ?_ hk hop
            intro r' c1 c2
            cases r' <;> simp only [Instr.lookup, Sem.run_bind, run_und hu, Result.andThen_ok, hv, vget g1, Sem.run_pure, c1, c2, run_zer h2 h3]
          · simp at hop
        · simp at hop

theorem RE.set {es : List (AV × AV)} {E : List MapEntry} (h : RE σ D es E) {v : AV} {y z : Value} : ∀ {i : Nat} {p : AV × AV}, es[i]? = some p → R σ D p.1 y → R σ D v z →
    RE σ D (setV v es i) (E.modify i fun e => { e with key := y, val := z }) := by
  induction h with
  | nil => intro i p h1; simp at h1
  | cons k u e l m h1 h2 h3 ih =>
    intro i p e1 hy hz
    cases i with
    | zero => simp at e1; subst e1; exact .cons _ _ _ _ _ hy hz h3
    | succ i => exact .cons _ _ _ _ _ h1 h2 (ih (by simpa using e1) hy hz)

theorem RE.del {es : List (AV × AV)} {E : List MapEntry} (h : RE σ D es E) : ∀ {i : Nat}, RE σ D (delV es i) (E.eraseIdx i) := by
  induction h with
  | nil => intro i; exact .nil
  | cons k u e l m h1 h2 h3 ih =>
    intro i
    cases i with
    | zero => exact h3
    | succ i => exact .cons _ _ _ _ _ h1 h2 ih

theorem RE.snoc {es : List (AV × AV)} {E : List MapEntry} (h : RE σ D es E) {k v : AV} {e : MapEntry} (hk : R σ D k e.key) (hv : R σ D v e.val) : RE σ D (es ++ [(k, v)]) (E ++ [e]) := by
  induction h with
  | nil => exact .cons _ _ _ _ _ hk hv .nil
  | cons k u e l m h1 h2 h3 ih => exact .cons _ _ _ _ _ h1 h2 ih

theorem born_modify (E : List MapEntry) (i : Nat) (y z : Value) : (E.modify i fun e => { e with key := y, val := z }).map (·.born) = E.map (·.born) := by
  induction E generalizing i with
  | nil => simp
  | cons e E ih => cases i with
    | zero => simp
    | succ i => simp [ih]

theorem Stp.setMap {r : Nat} {es es' : List (AV × AV)} {E' : Array MapEntry} {ck' : Nat} (hw : RW P σ D s w) (hg : s.get r = .map es) (hE : RE σ D es' E'.toList) (hn : (E'.toList.map (·.born)).Nodup) (hb : ∀ e ∈ E'.toList, e.born < ck') :
    Stp P σ D s w σ (s.upd r (.map es')) { w with heap := w.heap.setIfInBounds (σ r).blk (.map E' ck') } := by
  obtain ⟨E, ck, g1, g2, g3⟩ := hw.map hg
  have hlt := (Array.getElem?_eq_some_iff.1 g1).1
  refine Stp.upd hw (by rw [hg]; simp) (by simp) rfl rfl rfl (fun b hb => ?_) ⟨E', ck', ?_, hE, hn, hb⟩
  · show (w.heap.setIfInBounds _ _)[b]? = _
    rw [Array.getElem?_setIfInBounds, if_neg (fun e => hb e.symm)]
  · show (w.heap.setIfInBounds _ _)[(σ r).blk]? = _
    rw [Array.getElem?_setIfInBounds, if_pos rfl, if_pos hlt]

theorem op_mupd {t : TypeId} {m k x : Operand} (ho : o.op = .mapUpdate t m k x ∨ o.op = .insert t m k x) (hop : runOp (cOp P (.mapUpdate t m k x)) tm s = .val v s') (hw : RW P σ D s w) (ht : Rt σ D tm a.tmps) :
    Res P σ D s w v s' ((execOp a.eval o).run P w) := by
  simp only [cOp] at hop
  cases hkk : keyKind P t with
  | none => simp [hkk, orBad, runOp, rNo] at hop
  | some kk =>
    obtain ⟨kt, e, d, hu, huk, hd⟩ := keyKind_ok hkk
    simp only [hkk, orBad, Option.map_some, Option.getD_some, runOp, rMupd] at hop
    have hm := ev ht m
    have hk' := ev ht k
    have hx := ev ht x
    have hex : ∀ w', (Instr.mapUpdate t (a.eval m) (a.eval k) (a.eval x)).run P w = .ok () w' → (execOp a.eval o).run P w = .ok .skip w' := by
      intro w' h
      rcases ho with ho | ho <;> simp only [execOp, ho, Sem.run_bind, h, Result.andThen_ok, Sem.run_pure]
    split at hop
    · rename_i r he
      rw [he] at hm
      obtain ⟨hmv, hD⟩ := map_of hm
      split at hop
      · rename_i es hg
        obtain ⟨E, ck, g1, g2, g3, g4⟩ := hw.map hg
        split at hop
        · simp at hop
        · rename_i hk
          have hck := checkKey_ok (w := w) huk hd hk hk' false 9998
          split at hop
          · rename_i i' v' hf
            obtain ⟨rfl, rfl⟩ := val_inj hop
            obtain ⟨r', hr, hF⟩ := findKey_ok (w := w) huk hd hk hk' g2 hf
            cases r' with
            | none => exact hF.elim
            | some q =>
              obtain ⟨q1, y⟩ := q
              obtain ⟨e1, _, en, e2, rfl, e3⟩ := hF
              subst e1
              have hkey := (g2.at e3 e2).1
              have heq : en.key = a.eval k := key_det hk hkey hk'
              have hE2 : E[q1]? = some en := by simpa using e2
              have hrun : (Instr.mapUpdate t (a.eval m) (a.eval k) (a.eval x)).run P w = .ok () { w with heap := w.heap.setIfInBounds (σ r).blk (.map (E.modify q1 fun e => { e with key := a.eval k, val := a.eval x }) ck) } := by
                simp only [Instr.mapUpdate, Sem.run_bind, run_und hu, Result.andThen_ok, hmv, vget g1, hck, hr, hE2, Option.map_some, Option.getD_some, Instr.keyThatStays, heq, key_bits hk hk', if_true, Sem.run_pure]
                rw [vset _ g1]
              rw [hex _ hrun]
              refine ⟨_, _, σ, rfl, .inr ⟨rfl, rfl⟩, Stp.setMap hw hg ?_ ?_ ?_⟩
              · rw [Array.toList_modify]; exact g2.set (by simpa using e3) hk' hx
              · rw [Array.toList_modify, born_modify]; exact g3
              · intro e he
                have : e.born ∈ (E.toList.map (·.born)) := by
                  rw [← born_modify E.toList q1 (a.eval k) (a.eval x), ← Array.toList_modify]
                  exact List.mem_map_of_mem he
                obtain ⟨e', h1, h2⟩ := List.mem_map.1 this
                rw [← h2]; exact g4 e' h1
          · rename_i hf
            obtain ⟨rfl, rfl⟩ := val_inj hop
            obtain ⟨r', hr, hF⟩ := findKey_ok (w := w) huk hd hk hk' g2 hf
            cases r' with
            | some q => exact hF.elim
            | none =>
              have hrun : (Instr.mapUpdate t (a.eval m) (a.eval k) (a.eval x)).run P w = .ok () { w with heap := w.heap.setIfInBounds (σ r).blk (.map (E.push { key := a.eval k, val := a.eval x, born := ck }) (ck + 1)) } := by
                simp only [Instr.mapUpdate, Sem.run_bind, run_und hu, Result.andThen_ok, hmv, vget g1, hck, hr]
                rw [vset _ g1]
              rw [hex _ hrun]
              refine ⟨_, _, σ, rfl, .inr ⟨rfl, rfl⟩, Stp.setMap hw hg ?_ ?_ ?_⟩
              · rw [Array.toList_push]; exact g2.snoc hk' hx
              · rw [Array.toList_push, List.map_append, List.nodup_append]
                refine ⟨g3, by simp, fun b hb c hc => ?_⟩
                simp at hc; subst hc
                obtain ⟨e', h1, h2⟩ := List.mem_map.1 hb
                have := g4 e' h1
                omega
              · intro e he
                rw [Array.toList_push] at he
                rcases List.mem_append.1 he with h | h
                · have := g4 e h; omega
                · simp at h; subst h; simp
          · simp at hop
      · simp at hop
    · simp at hop

theorem op_mdel {c : Call} {m k : Operand} (ho : o.op = .call c) (hb : c.callee = .builtin .delete) (hc : c.args = ⟨[m, k]⟩)
    (hop : runOp (cBuiltin P .delete c.argTypes [cOpd m, cOpd k]) tm s = .val v s') (hw : RW P σ D s w) (ht : Rt σ D tm a.tmps) :
    Res P σ D s w v s' ((execOp a.eval o).run P w) := by
  simp only [cBuiltin] at hop
  cases hat : c.argTypes[0]? with
  | none => simp [hat, orBad, runOp, rNo] at hop
  | some t =>
    cases hkk : keyKind P t with
    | none => simp [hat, hkk, orBad, runOp, rNo] at hop
    | some kk =>
      obtain ⟨kt, e, d, hu, huk, hd⟩ := keyKind_ok hkk
      simp only [hat, hkk, orBad, Option.bind_some, Option.map_some, Option.getD_some, runOp, rMdel] at hop
      have hm := ev ht m
      have hk' := ev ht k
      have hl0 : (c.args.map a.eval)[0]? = some (a.eval m) := by rw [hc]; simp
      have hl1 : (c.args.map a.eval)[1]? = some (a.eval k) := by rw [hc]; simp
      have hex : ∀ w', (Builtin.delete_ c.argTypes o.type (c.args.map a.eval)).run P w = .ok (.tuple #[]) w' → (execOp a.eval o).run P w = .ok (.value (.tuple #[])) w' :=
        fun w' h => bi_val ho hb (fun _ => rfl) h
      split at hop
      · rename_i r he
        rw [he] at hm
        obtain ⟨hmv, hD⟩ := map_of hm
        split at hop
        · rename_i es hg
          obtain ⟨E, ck, g1, g2, g3, g4⟩ := hw.map hg
          split at hop
          · simp at hop
          · rename_i hk
            have hck := checkKey_ok (w := w) huk hd hk hk' E.isEmpty 9998
            split at hop
            · rename_i i' v' hf
              obtain ⟨rfl, rfl⟩ := val_inj hop
              obtain ⟨r', hr, hF⟩ := findKey_ok (w := w) huk hd hk hk' g2 hf
              cases r' with
              | none => exact hF.elim
              | some q =>
                obtain ⟨q1, y⟩ := q
                obtain ⟨e1, _, en, e2, rfl, e3⟩ := hF
                subst e1
                have hrun : (Builtin.delete_ c.argTypes o.type (c.args.map a.eval)).run P w = .ok (.tuple #[]) { w with heap := w.heap.setIfInBounds (σ r).blk (.map (E.eraseIdxIfInBounds q1) ck) } := by
                  simp only [Builtin.delete_, hat, hl0, hl1, Sem.run_bind, run_und hu, Result.andThen_ok, hmv, vget g1, hck, hr, vset _ g1, Sem.run_pure]
                rw [hex _ hrun]
                refine ⟨_, _, σ, rfl, .inl ⟨_, rfl, .tup _ _ .nil⟩, Stp.setMap hw hg ?_ ?_ ?_⟩
                · rw [Array.toList_eraseIdxIfInBounds]; exact g2.del
                · rw [Array.toList_eraseIdxIfInBounds]
                  exact g3.sublist ((List.eraseIdx_sublist _ _).map _)
                · intro e he
                  rw [Array.toList_eraseIdxIfInBounds] at he
                  exact g4 e (List.mem_of_mem_eraseIdx he)
            · rename_i hf
              obtain ⟨rfl, rfl⟩ := val_inj hop
              obtain ⟨r', hr, hF⟩ := findKey_ok (w := w) huk hd hk hk' g2 hf
              cases r' with
              | some q => exact hF.elim
              | none =>
                have hrun : (Builtin.delete_ c.argTypes o.type (c.args.map a.eval)).run P w = .ok (.tuple #[]) w := by
                  simp only [Builtin.delete_, hat, hl0, hl1, Sem.run_bind, run_und hu, Result.andThen_ok, hmv, vget g1, hck, hr, vset _ g1, Sem.run_pure]
                  congr 1
                  cases w with
                  | mk h tp dr os out =>
                    simp only at g1 ⊢
                    congr 1
                    apply Array.ext_getElem?
                    intro i
                    rw [Array.getElem?_setIfInBounds]
                    by_cases hi : (σ r).blk = i
                    · subst hi
                      rw [if_pos rfl, if_pos (Array.getElem?_eq_some_iff.1 g1).1, g1]
                    · rw [if_neg hi]
                rw [hex _ hrun]
                exact ⟨_, _, σ, rfl, .inl ⟨_, rfl, .tup _ _ .nil⟩, Stp.refl hw⟩
            · simp at hop
        · simp at hop
      · simp at hop
end
end Go.VM

