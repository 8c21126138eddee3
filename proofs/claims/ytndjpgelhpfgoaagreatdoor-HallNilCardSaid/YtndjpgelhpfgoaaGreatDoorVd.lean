/-
  Part of the proof by an abstract machine (OpsE OpsF OpsG OpsH OpsI OpsJ): what each theorem says stands at it; it asks what its own hypotheses say.
-/
import Derived.Test.YtndjpgelhpfgoaaGreatDoorVc
import Derived.Laws.BytesString
import Derived.Laws.BytesArg
namespace Go.VM
open Go

section
variable {P : Program} {σ : Nat → Loc} {D : Nat → Prop} {s s' : S} {w : World} {a : Act} {tm : T AV} {v : AV} {o : Oper}

theorem Res.of {x : Result Next} {y : Value} (hx : x = .ok (.value y) w) (hw : RW P σ D s w) (h : R σ D v y) : Res P σ D s w v s x := by rw [hx]; exact Res.pure hw h

theorem int_of {k : IntKind} {n : Int} {v : Value} (h : R σ D (.int k n) v) : v = .int k n := by cases h; rfl

theorem wrap_max {k : IntKind} (h : isU k = true) : kmax k = (2 : Int) ^ k.bits - 1 := by cases k <;> first | rfl | (simp [isU] at h)

theorem op_un {op : UnOp} {t : TypeId} {x : Operand} (ho : o.op = .unOp op t x) (hop : rUn op (cOpd x) tm s = .val v s') (hw : RW P σ D s w) (ht : Rt σ D tm a.tmps) :
    Res P σ D s w v s' ((execOp a.eval o).run P w) := by
  unfold rUn at hop
  obtain ⟨rfl, hv⟩ := valO_syn hop
  have hx := ev ht x
  have hrun : ∀ z, Op.unary op (a.eval x) = pure z → (execOp a.eval o).run P w = .ok (.value z) w := fun z hz => by
    simp only [execOp, ho, hz]; rfl
  unfold unV at hv
  split at hv
  · -- neg, an int
    rename_i k n he
    rw [he] at hx
    simp only [Option.some.injEq] at hv; subst hv
    have e := int_of hx
    refine Res.of (hrun (.int k (k.wrap (0 - n))) (by rw [e]; rfl)) hw ?_
    rw [wr_eq]; exact .int _ _
  · rename_i k l h he
    rw [he] at hx
    simp only [Option.some.injEq] at hv; subst hv
    generalize hz : a.eval x = z at hx
    cases hx
    rename_i n h1 h2
    refine Res.of (hrun (.int k (k.wrap (0 - n))) (by rw [hz]; rfl)) hw (R.mkR ?_ ?_)
    · show (0 : Int) - h ≤ _; omega
    · show _ ≤ (0 : Int) - l; omega
  · rename_i b he
    rw [he] at hx
    simp only [Option.some.injEq] at hv; subst hv
    exact Res.of (hrun (.bool !b) (by rw [bool_of hx]; rfl)) hw (.bool _)
  · rename_i k n he
    rw [he] at hx
    have e := int_of hx
    split at hv
    · rename_i hc
      rw [Bool.and_eq_true, ile_iff] at hc
      simp only [Option.some.injEq] at hv; subst hv
      have hsg : k.signed = false := by have := hc.1; rw [isU_eq] at this; simpa using this
      have hn : n ≤ kmaxN k := by have := kmaxN_eq k; have := hc.2; simp at this; omega
      refine Res.of (hrun (.int k (k.wrap ((BitVec.ofInt k.bits k.max ^^^ BitVec.ofInt k.bits (Int.ofNat n)).toNat : Nat))) (by rw [e]; simp only [Op.unary, hsg]; rfl)) hw ?_
      have hm : (BitVec.ofInt k.bits k.max).toNat = kmaxN k := by
        rw [← kmax_eq, ← kmaxN_eq]; exact ofInt_toNat (Nat.le_refl _)
      rw [BitVec.toNat_xor, hm, ofInt_toNat hn]
      have hp : kmaxN k = 2 ^ k.bits - 1 := by cases k <;> first | rfl | (simp [IntKind.signed] at hsg)
      have hx' : kmaxN k ^^^ n = kmaxN k - n := by
        rw [hp]
        have hlt : n < 2 ^ k.bits := by have := kmaxN_lt k; omega
        rw [Nat.xor_comm]
        apply Nat.eq_of_testBit_eq
        intro i
        rw [Nat.testBit_xor, Nat.testBit_two_pow_sub_one]
        have := Nat.testBit_two_pow_sub_succ hlt i
        rw [show 2 ^ k.bits - (n + 1) = 2 ^ k.bits - 1 - n by omega] at this
        rw [this]
        by_cases hi : i < k.bits
        · simp [hi]
        · have : n.testBit i = false := Nat.testBit_lt_two_pow (Nat.lt_of_lt_of_le hlt (Nat.pow_le_pow_right (by decide) (by omega)))
          simp [hi, this]
      rw [hx', wrap_nat (by omega)]
      have : Int.sub (kmax k) (Int.ofNat n) = ((kmaxN k - n : Nat) : Int) := by
        rw [← kmaxN_eq]; show (kmaxN k : Int) - (n : Int) = _; omega
      rw [this]; exact .int _ _
    · simp at hv
  · rename_i k l h he
    rw [he] at hx
    generalize hz : a.eval x = z at hx
    cases hx
    rename_i n h1 h2
    split at hv
    · simp only [Option.some.injEq] at hv; subst hv
      refine Res.of (hrun (.int k (k.wrap ((BitVec.ofInt k.bits (if k.signed then -1 else k.max) ^^^ BitVec.ofInt k.bits n).toNat : Nat))) (by rw [hz]; rfl)) hw (R.full _)
    · simp at hv
  · simp at hv

theorem strOf_inv : ∀ {cs : List AV} {l : List Nat}, strOf cs = some l → Byt l ∧ cs = l.map fun n => AV.int .u8 (.ofNat n)
  | [], l, h => by simp [strOf] at h; subst h; exact ⟨fun c hc => by simp at hc, rfl⟩
  | c :: cs, l, h => by
    unfold strOf at h
    split at h
    · rename_i h0; simp at h0
    · rename_i n t h0
      simp only [List.cons.injEq] at h0
      obtain ⟨rfl, rfl⟩ := h0
      split at h
      · rename_i hlt
        split at h
        · rename_i r hr
          simp only [Option.some.injEq] at h; subst h
          obtain ⟨h1, h2⟩ := strOf_inv hr
          refine ⟨fun c hc => ?_, by rw [h2]; rfl⟩
          rcases List.mem_cons.1 hc with e | e
          · rw [e]; exact Nat.le_of_ble_eq_true hlt
          · exact h1 c e
        · simp at h
      · simp at h
    · simp at h

theorem Rs_ints {l : List Nat} {vs : List Value} (h : Rs σ D (l.map fun n => AV.int .u8 (.ofNat n)) vs) : vs = (l.map Int.ofNat).map (Value.int .u8) := by
  induction l generalizing vs with
  | nil => cases h; rfl
  | cons n l ih =>
    cases h with
    | cons _ y _ m h1 h2 => rw [int_of h1, ih h2]; rfl

theorem Stp.ofDrew {σ' : Nat → Loc} {w' : World} {n : Nat} (h : Stp P σ D s { w with drawn := n } σ' s' w') : Stp P σ D s w σ' s' w' :=
  ⟨h.ext, h.rw', h.size, h.os, h.tape, h.output, h.frame, h.own⟩

theorem conv_run {src dst : TypeId} {x : Operand} {d : TypeDesc} {e : TypeDesc} (ho : o.op = .convert src dst x) (h1 : P.underlying src = some d) (h2 : P.underlying dst = some e) :
    (execOp a.eval o).run P w = ((convert src dst (a.eval x)).run P w).andThen fun y w' => .ok (.value y) w' := by
  simp only [execOp, ho, Sem.run_bind]; rfl

theorem op_conv {src dst : TypeId} {x : Operand} (ho : o.op = .convert src dst x) (hop : runOp (cOp P (.convert src dst x)) tm s = .val v s') (hw : RW P σ D s w) (ht : Rt σ D tm a.tmps) (hoff : Off D s.nx s'.nx) :
    Res P σ D s w v s' ((execOp a.eval o).run P w) := by
  simp only [cOp] at hop
  cases h1 : P.underlying src with
  | none => simp [h1, orBad, runOp, rNo] at hop
  | some d =>
    cases h2 : P.underlying dst with
    | none => simp [h1, h2, orBad, runOp, rNo] at hop
    | some e =>
      simp only [h1, h2, Option.bind_eq_bind, Option.bind_some, pure] at hop
      have hx := ev ht x
      have hrun := conv_run (P := P) (w := w) (a := a) ho h1 h2
      split at hop
      · -- ints
        rename_i k1 k
        simp only [orBad, Option.getD_some, runOp, rCvI] at hop
        have hc : ∀ k0 n, a.eval x = .int k0 n → (execOp a.eval o).run P w = .ok (.value (.int k (k.wrap n))) w := fun k0 n hn => by
          rw [hrun, hn]
          simp only [convert, Sem.run_bind, run_und h1, run_und h2, Result.andThen_ok]
          rfl
        split at hop
        · rename_i k0 n he
          obtain ⟨rfl, rfl⟩ := val_inj hop
          rw [he] at hx
          have e := int_of hx
          refine Res.of (hc k0 n e) hw ?_
          rw [wr_eq]; exact .int _ _
        · rename_i k0 l h he
          obtain ⟨rfl, rfl⟩ := val_inj hop
          rw [he] at hx
          generalize hz : a.eval x = z at hx
          cases hx
          rename_i n h3 h4
          exact Res.of (hc k0 n hz) hw (R.mkR h3 h4)
        · simp at hop
      · -- a text to a text
        simp only [orBad, Option.getD_some, runOp, rCvSS] at hop
        split at hop
        · rename_i l he
          obtain ⟨rfl, rfl⟩ := val_inj hop
          rw [he] at hx
          refine Res.of (y := a.eval x) ?_ hw hx
          rw [hrun, (str_of hx).1]
          simp only [convert, Sem.run_bind, run_und h1, run_und h2, Result.andThen_ok]
          rfl
        · simp at hop
      · -- a text to bytes
        rename_i e'
        split at hop
        · rename_i hu
          simp only [orBad, Option.getD_some, runOp, rCvSB] at hop
          split at hop
          · rename_i l he
            obtain ⟨rfl, rfl⟩ := newB_ok hop
            rw [newS_nx] at hoff
            rw [he] at hx
            obtain ⟨hxv, hbyt⟩ := str_of hx
            -- the model's run
            let q : Question := .appendCap (enc l).size 0 e'
            let cap := q.cut (w.tape w.drawn q)
            have hcap : l.length ≤ cap := by
              show l.length ≤ (enc l).size + _
              rw [enc_size]; omega
            let vs : List Value := l.map fun c => Value.int .u8 (Int.ofNat c)
            let extra : List Value := List.replicate (cap - l.length) (.int .u8 0)
            have hvs : (enc l).data.map (fun b => Value.int .u8 (b.toNat : Int)) = ⟨vs⟩ := by
              show (⟨(l.map UInt8.ofNat)⟩ : Array UInt8).map _ = _
              rw [List.map_toArray, List.map_map]
              congr 1
              apply List.map_congr_left
              intro c hc
              have := hbyt c hc
              simp [UInt8.toNat_ofNat', Nat.mod_eq_of_lt (show c < 256 from this)]
            have hlen : vs.length + extra.length = cap := by simp [vs, extra]; omega
            have hr : Rs σ D (l.map fun c => AV.int .u8 (.ofNat c)) vs := by
              show Rs σ D (l.map fun c => AV.int .u8 (.ofNat c)) (l.map fun c => Value.int .u8 (Int.ofNat c))
              clear hvs hlen hcap hx hxv hop he hbyt
              induction l with
              | nil => exact .nil
              | cons c l ih => exact .cons _ _ _ _ (.int _ _) ih
            have hmodel : (execOp a.eval o).run P w = .ok (.value (.slice (some ⟨w.heap.size, 0, none⟩) l.length cap)) { { w with drawn := w.drawn + 1 } with heap := w.heap.push (.cells ⟨vs ++ extra⟩ e' (vs.length + extra.length, vs.length + extra.length + 1)) } := by
              rw [hrun, hxv]
              simp only [convert, Sem.run_bind, run_und h1, run_und h2, run_und hu, Result.andThen_ok, Conv.stringToBytes, run_choose, Question.forced, Bool.false_eq_true, if_false]
              rw [hvs]
              have hext : (Array.replicate (cap - (enc l).size) (Value.int .u8 0)) = ⟨extra⟩ := by
                rw [enc_size]; rfl
              show _ = _
              simp only [newRow, Sem.run_bind, run_newObj, Result.andThen_ok, Sem.run_pure, markStringish, run_shape]
              have hsh : ∀ (H : Array Obj) (C : Array Value) (tp : Nat → Question → Nat) (dr : Nat) (os : Os) (out : Array (Nat × ByteArray)),
                  World.shape? ⟨H.push (.cells C e'), tp, dr, os, out⟩ H.size = some (e', C.size) := fun H C _ _ _ _ => by
                simp [World.shape?]
              have hfz : ∀ (H : Array Obj) (C : Array Value) (n : Nat) (tp : Nat → Question → Nat) (dr : Nat) (os : Os) (out : Array (Nat × ByteArray)),
                  World.freeze ⟨H.push (.cells C e'), tp, dr, os, out⟩ { block := H.size, off := n } 1 = ⟨H.push (.cells C e' (n, n + 1)), tp, dr, os, out⟩ := fun H C n _ _ _ _ => by
                unfold World.freeze
                simp only [Nat.succ_ne_zero, if_false]
                congr 1
                apply Array.ext_getElem?
                intro i
                simp only [Array.getElem?_modify, Array.getElem?_push]
                by_cases hi : i = H.size
                · subst hi; simp
                · simp [hi]; intro h; exact absurd h.symm hi
              simp only [hsh, run_freeze, Result.andThen_ok, Sem.run_pure, hfz]
              rw [hext]
              simp [enc_size]
              simp only [cap, q, enc_size]
            rw [hmodel]
            refine ⟨_, _, upF σ s.nx ⟨w.heap.size, 0, vs.length + extra.length⟩, rfl, .inl ⟨_, rfl, ?_⟩, ?_⟩
            · have := R.slo (σ := upF σ s.nx ⟨w.heap.size, 0, vs.length + extra.length⟩) (D := Up D s.nx (Nat.succ s.nx)) s.nx 0 l.length 1 cap up_new hcap (by rw [upF_self]; simp only; omega)
              rw [upF_self] at this
              exact this
            · have h := Stp.newCells' (elem := e') (opn := true) e' extra (vs.length + extra.length) (vs.length + extra.length + 1) (.inr (Nat.le_refl _)) (hw.drew (w.drawn + 1)) hoff hr
              have hl : (l.map fun c => AV.int .u8 (.ofNat c)).length = l.length := by simp
              rw [hl] at h
              exact h.ofDrew
          · simp at hop
        · simp [orBad, runOp, rNo] at hop
      · -- bytes to a text
        rename_i e'
        split at hop
        · rename_i hu
          simp only [orBad, Option.getD_some, runOp, rCvBS] at hop
          have hgo : ∀ (b o' n cap : Nat), a.eval x = .slice (some ⟨(σ b).blk, (σ b).base + o', none⟩) n cap →
              (match loadN s b o' n with | some cs => (match strOf cs with | some l => Nx.val (.str l) s | none => .no) | none => .no) = .val v s' →
              Res P σ D s w v s' ((execOp a.eval o).run P w) := by
            intro b o' n cap hxv hop
            split at hop
            · rename_i cs hl
              split at hop
              · rename_i l hs
                obtain ⟨rfl, rfl⟩ := val_inj hop
                obtain ⟨vs, hr, hlen, hld⟩ := loadN_ok hl hw
                obtain ⟨hb, rfl⟩ := strOf_inv hs
                have hvs := Rs_ints hr
                subst hvs
                refine Res.of (y := .string (enc l)) ?_ hw (.str _ hb)
                rw [hrun, hxv, run_convert_bytes_string w src dst e' _ _ _ h1 hu h2, run_bytesToString w _ _ _ _ hld]
                simp only [Result.andThen_ok, foldl_push_bytes]
                congr 2
                apply congrArg
                apply ByteArray.ext
                simp only [enc, List.map_map]
                show #[] ++ _ = _
                simp
              · simp at hop
            · simp at hop
          split at hop
          · rename_i he
            obtain ⟨rfl, rfl⟩ := val_inj hop
            rw [he] at hx
            have e0 : a.eval x = .slice none 0 0 := by
              generalize a.eval x = z at hx; cases hx; rfl
            refine Res.of (y := .string (enc [])) ?_ hw (.str _ (fun c hc => by simp at hc))
            rw [hrun, e0]
            simp only [convert, Sem.run_bind, run_und h1, run_und h2, run_und hu, Result.andThen_ok]
            rfl
          · rename_i b o' n c he
            rw [he] at hx
            refine hgo b o' n c ?_ hop
            generalize a.eval x = z at hx; cases hx; rfl
          · rename_i b o' n z he
            rw [he] at hx
            have : ∃ cap, a.eval x = .slice (some ⟨(σ b).blk, (σ b).base + o', none⟩) n cap := by
              generalize a.eval x = z at hx; cases hx; exact ⟨_, rfl⟩
            obtain ⟨cap, hc⟩ := this
            exact hgo b o' n cap hc hop
          · simp at hop
        · simp [orBad, runOp, rNo] at hop
      · -- a row of bytes to itself
        rename_i e1 e'
        split at hop
        · rename_i hsd hu
          simp only [orBad, Option.getD_some, runOp, rCvLL] at hop
          have hsd' : src = dst := Nat.eq_of_beq_eq_true hsd
          have hgo : ∀ (b o' n cap : Nat) (ct : T AV) (m el : Nat) (p : Bool) (v1 : AV), a.eval x = .slice (some ⟨(σ b).blk, (σ b).base + o', none⟩) n cap → R σ D v1 (a.eval x) → s.get b = .cells ct m el p →
              Nx.val v1 (s.upd b (.cells ct m el p)) = .val v s' → Res P σ D s w v s' ((execOp a.eval o).run P w) := by
            intro b o' n cap ct m el p v1 hxv hr hg hop
            obtain ⟨rfl, rfl⟩ := val_inj hop
            obtain ⟨C, el', lo, hi, c1, c2, c3, c4, c5, c6⟩ := hw.cells hg
            have hlt := (Array.getElem?_eq_some_iff.1 c1).1
            let w1 : World := w.freeze { block := (σ b).blk, off := C.size } 1
            have hmodel : (execOp a.eval o).run P w = .ok (.value (a.eval x)) w1 := by
              rw [hrun, hxv]
              have hsh : w.shape? (σ b).blk = some (el', C.size) := by simp [World.shape?, c1]
              simp only [convert, Sem.run_bind, run_und h1, run_und h2, run_und hu, Result.andThen_ok, hsd]
              simp only [hsd', beq_self_eq_true]
              simp only [markStringish, Sem.run_bind, run_shape, hsh, Result.andThen_ok, run_freeze, Sem.run_pure]
              rfl
            rw [hmodel]
            refine ⟨_, _, σ, rfl, .inl ⟨_, rfl, ?_⟩, ?_⟩
            · rw [upd_nx]; exact hr.up
            · have hheap : ∀ i, w1.heap[i]? = if i = (σ b).blk then some (.cells C el' (if lo == hi then (C.size, C.size + 1) else (min lo C.size, max hi (C.size + 1)))) else w.heap[i]? := by
                intro i
                simp only [w1, World.freeze, Nat.succ_ne_zero, if_false, Array.getElem?_modify]
                by_cases e : i = (σ b).blk
                · subst e; simp [c1]
                · rw [if_neg (fun h => e h.symm), if_neg e]
              refine Stp.upd hw (by rw [hg]; simp) (by simp [w1, World.freeze]) rfl rfl rfl (fun i hi => by rw [hheap, if_neg hi]) ?_
              by_cases e : lo == hi
              · exact ⟨C, el', C.size, C.size + 1, by rw [hheap, if_pos rfl, if_pos e], c2, c3, c4, .inr (by omega), c6⟩
              · have hne : lo ≠ hi := by simpa using e
                exact ⟨C, el', min lo C.size, max hi (C.size + 1), by rw [hheap, if_pos rfl, if_neg e], c2, c3, c4, .inr (by omega), c6⟩
          split at hop
          · rename_i b o' n c he
            rw [he] at hx
            split at hop
            · rename_i ct m el p hg
              refine hgo b o' n c ct m el p _ ?_ hx hg hop
              generalize a.eval x = z at hx; cases hx; rfl
            · simp at hop
          · rename_i b o' n z he
            rw [he] at hx
            split at hop
            · rename_i ct m el p hg
              have : ∃ cap, a.eval x = .slice (some ⟨(σ b).blk, (σ b).base + o', none⟩) n cap := by
                generalize a.eval x = z at hx; cases hx; exact ⟨_, rfl⟩
              obtain ⟨cap, hc⟩ := this
              exact hgo b o' n cap ct m el p _ hc hx hg hop
            · simp at hop
          · simp at hop
        · simp [orBad, runOp, rNo] at hop
      · simp [orBad, runOp, rNo] at hop
end
end Go.VM

namespace Go.VM
open Go

section
variable {P : Program} {σ : Nat → Loc} {D : Nat → Prop} {s s' : S} {w : World} {a : Act} {tm : T AV} {v : AV} {o : Oper}

theorem sl_of {b off n c : Nat} {x : Value} (h : R σ D (.sl b off n c) x) : x = .slice (some ⟨(σ b).blk, (σ b).base + off, none⟩) n c ∧ D b := by
  cases h; exact ⟨rfl, by assumption⟩
theorem slo_of {b off n z : Nat} {x : Value} (h : R σ D (.slo b off n z) x) : ∃ c, x = .slice (some ⟨(σ b).blk, (σ b).base + off, none⟩) n c ∧ D b ∧ n ≤ c ∧ (σ b).base + off + c * z ≤ (σ b).tot := by
  cases h; exact ⟨_, rfl, by assumption, by assumption, by assumption⟩
theorem snil_of {x : Value} (h : R σ D .snil x) : x = .slice none 0 0 := by cases h; rfl
theorem agg_of {cs : List AV} {x : Value} (h : R σ D (.agg cs) x) : ∃ l, x = .agg ⟨l⟩ ∧ Rs σ D cs l := by cases h; exact ⟨_, rfl, by assumption⟩
theorem tup_of {cs : List AV} {x : Value} (h : R σ D (.tup cs) x) : ∃ l, x = .tuple ⟨l⟩ ∧ Rs σ D cs l := by cases h; exact ⟨_, rfl, by assumption⟩
theorem map_of {r : Nat} {x : Value} (h : R σ D (.map r) x) : x = .map (some (σ r).blk) ∧ D r := by cases h; exact ⟨rfl, by assumption⟩

theorem op_s2ap {t : TypeId} {x : Operand} (ho : o.op = .sliceToArrayPointer t x) (hop : runOp (cOp P (.sliceToArrayPointer t x)) tm s = .val v s') (hw : RW P σ D s w) (ht : Rt σ D tm a.tmps) :
    Res P σ D s w v s' ((execOp a.eval o).run P w) := by
  simp only [cOp] at hop
  split at hop
  · rename_i n e hu
    simp only [orBad, Option.getD_some, runOp, rS2ap] at hop
    have hx := ev ht x
    have hgo : ∀ (b o' len cap : Nat), D b → a.eval x = .slice (some ⟨(σ b).blk, (σ b).base + o', none⟩) len cap → (match Nat.ble n len with | true => Nx.val (.ptr b o') s | false => .no) = .val v s' → Res P σ D s w v s' ((execOp a.eval o).run P w) := by
      intro b o' len cap hD hxv hop
      cases hle : Nat.ble n len with
      | false => rw [hle] at hop; simp at hop
      | true =>
        rw [hle] at hop
        obtain ⟨rfl, rfl⟩ := val_inj hop
        have := Nat.le_of_ble_eq_true hle
        refine Res.of (y := .pointer (some ⟨(σ b).blk, (σ b).base + o', none⟩)) ?_ hw (.ptr _ _ hD)
        simp only [execOp, ho, Instr.arrayAt, Sem.run_bind, run_und hu, Result.andThen_ok, hxv]
        rw [if_neg (by omega)]; rfl
    split at hop
    · rename_i b o' len c he
      rw [he] at hx
      obtain ⟨h1, h2⟩ := sl_of hx
      exact hgo b o' len c h2 h1 hop
    · rename_i b o' len c he
      rw [he] at hx
      obtain ⟨cap, h1, h2, _⟩ := slo_of hx
      exact hgo b o' len cap h2 h1 hop
    · simp at hop
  · simp [orBad, runOp, rNo] at hop

theorem op_mkI {t : TypeId} {x : Operand} (ho : o.op = .makeInterface t x) (hop : runOp (cOp P (.makeInterface t x)) tm s = .val v s') (hw : RW P σ D s w) (ht : Rt σ D tm a.tmps) :
    Res P σ D s w v s' ((execOp a.eval o).run P w) := by
  simp only [cOp] at hop
  split at hop
  · simp [runOp, rNo] at hop
  · rename_i d hni hu
    simp only [runOp, rMkI] at hop
    obtain ⟨rfl, rfl⟩ := val_inj hop
    refine Res.of (y := .iface t (a.eval x)) ?_ hw (.ifc _ _ _ (ev ht x))
    simp only [execOp, ho, Instr.makeInterface, Sem.run_bind, run_und hu, Result.andThen_ok]
    cases d <;> first | rfl | exact (hni _ rfl).elim
  · simp [runOp, rNo] at hop

theorem op_mkF {f : FuncId} {first caps : Array Operand} (ho : o.op = .makeFunc (.func f) first caps) (hop : rMkF f (first.toList.map cOpd) (caps.toList.map cOpd) tm s = .val v s') (hw : RW P σ D s w) (ht : Rt σ D tm a.tmps) :
    Res P σ D s w v s' ((execOp a.eval o).run P w) := by
  unfold rMkF at hop
  obtain ⟨rfl, rfl⟩ := val_inj hop
  refine Res.of (y := .func (.func f) ⟨first.toList.map a.eval⟩ ⟨caps.toList.map a.eval⟩) ?_ hw (.fn _ _ _ _ _ (evs_ok ht _) (evs_ok ht _))
  simp only [execOp, ho, Instr.makeFunc]
  have h1 : first.map a.eval = ⟨first.toList.map a.eval⟩ := by apply Array.ext'; simp
  have h2 : caps.map a.eval = ⟨caps.toList.map a.eval⟩ := by apply Array.ext'; simp
  rw [h1, h2]; rfl

theorem op_mkM {t : TypeId} {r : Option Operand} (ho : o.op = .makeMap t r) (hop : runOp (cOp P (.makeMap t r)) tm s = .val v s') (hw : RW P σ D s w) (hoff : Off D s.nx s'.nx) :
    Res P σ D s w v s' ((execOp a.eval o).run P w) := by
  simp only [cOp] at hop
  split at hop
  · simp only [runOp, rMkM] at hop
    obtain ⟨rfl, rfl⟩ := newB_ok hop
    rw [newS_nx] at hoff
    have hrun : (execOp a.eval o).run P w = .ok (.value (.map (some w.heap.size))) { w with heap := w.heap.push (.map #[] 0) } := by
      simp only [execOp, ho, Option.map_none, Instr.makeMap]
      rfl
    rw [hrun]
    have hst := Stp.new (P := P) (ob := .map #[] 0) (ℓ := ⟨w.heap.size, 0, 0⟩) (o := .map []) hw hoff rfl ⟨#[], 0, by simp, .nil, by simp, by simp⟩
    refine ⟨_, _, _, rfl, .inl ⟨_, rfl, ?_⟩, hst⟩
    have := R.map (σ := upF σ s.nx ⟨w.heap.size, 0, 0⟩) (D := Up D s.nx (Nat.succ s.nx)) s.nx up_new
    rw [upF_self] at this
    exact this
  · simp [runOp, rNo] at hop

theorem asNat_ok {x : AV} {n : Nat} {y : Value} (h : asNat x = some n) (hr : R σ D x y) : ∃ k, y = .int k (n : Int) := by
  unfold asNat at h
  split at h
  · split at h
    · simp only [Option.some.injEq] at h; subst h
      exact ⟨_, int_of hr⟩
    · simp at h
  · simp at h

theorem rep_len (l : List AV) (n : Nat) : (rep l n).length = n * l.length := by
  induction n with
  | zero => simp [rep]
  | succ n ih => simp [rep, ih, Nat.succ_mul, Nat.add_comm]

theorem rep_get (l : List AV) (n i : Nat) (h : i < n * l.length) : (rep l n)[i]? = l[i % l.length]? := by
  induction n generalizing i with
  | zero => simp at h
  | succ n ih =>
    have hl : 0 < l.length := by
      rcases Nat.eq_zero_or_pos l.length with e | e
      · rw [e] at h; simp at h
      · exact e
    simp only [rep]
    by_cases hi : i < l.length
    · rw [List.getElem?_append_left hi, Nat.mod_eq_of_lt hi]
    · have h' : i < n * l.length + l.length := by rw [← Nat.succ_mul]; exact h
      have hlt : i - l.length < n * l.length := by omega
      rw [List.getElem?_append_right (by omega), ih (i - l.length) hlt]
      have : i % l.length = (i - l.length) % l.length := Nat.mod_eq_sub_mod (by omega)
      rw [this]

/-- the zero cells of a row -/
theorem zeroRow_ok {z : Value} {n : Nat} : Rs σ D (rep (toAV z).cells n) ((Array.range (n * z.cells.size)).map (z.cells[· % z.cells.size]!)).toList := by
  have hz := (toAV_ok σ D z).cells
  have hlen := hz.length
  have hlen' : z.cells.size = (toAV z).cells.length := by rw [hlen]; simp
  refine Rs_of (by rw [rep_len]; simp [hlen']) fun i hi => ?_
  rw [rep_len] at hi
  have hpos : 0 < (toAV z).cells.length := by
    rcases Nat.eq_zero_or_pos (toAV z).cells.length with e | e
    · rw [e] at hi; simp at hi
    · exact e
  have hm : i % (toAV z).cells.length < (toAV z).cells.length := Nat.mod_lt _ hpos
  obtain ⟨x, hx, hr⟩ := hz.get _ hm
  refine ⟨(toAV z).cells[i % (toAV z).cells.length], x, by rw [rep_get _ _ _ hi, List.getElem?_eq_getElem hm], ?_, ?_⟩
  · simp only [Array.toList_map, Array.toList_range, List.getElem?_map]
    rw [List.getElem?_range (by rw [hlen']; exact hi)]
    simp only [Option.map_some]
    rw [hlen']
    congr 1
    rw [getElem!_pos z.cells _ (by rw [hlen']; exact hm)]
    have : z.cells[i % (toAV z).cells.length]? = some x := by simpa using hx
    rw [Array.getElem?_eq_getElem (by rw [hlen']; exact hm)] at this
    exact Option.some.inj this
  · have : (toAV z).cells.getD (i % (toAV z).cells.length) (.tup []) = (toAV z).cells[i % (toAV z).cells.length] := by
      simp [List.getD, List.getElem?_eq_getElem hm]
    rw [this] at hr
    exact hr
end
end Go.VM

namespace Go.VM
open Go

section
variable {P : Program} {σ : Nat → Loc} {D : Nat → Prop} {s s' : S} {w : World} {a : Act} {tm : T AV} {v : AV} {o : Oper}

theorem i64_wrap {n : Nat} (h : n ≤ 1000000) : IntKind.i64.wrap (n : Int) = n := by
  exact wrap_nat (k := .i64) (by simp [kmaxN]; omega)

theorem op_mkS {t : TypeId} {l c : Operand} (ho : o.op = .makeSlice t l c) (hop : runOp (cOp P (.makeSlice t l c)) tm s = .val v s') (hw : RW P σ D s w) (ht : Rt σ D tm a.tmps) (hoff : Off D s.nx s'.nx) :
    Res P σ D s w v s' ((execOp a.eval o).run P w) := by
  simp only [cOp] at hop
  cases hu : P.underlying t with
  | none => simp [hu, orBad, runOp, rNo] at hop
  | some d =>
    cases d with
    | slice e =>
      cases hi : tyI P e with
      | none => simp [hu, hi, orBad, runOp, rNo] at hop
      | some i =>
        obtain ⟨j, z, h1, h2, h3, h4, h5, h6⟩ := tyI_ok hi
        simp only [hu, hi, orBad, Option.bind_eq_bind, Option.bind_some, pure] at hop
        cases hz : Nat.beq i.zero.cells.length i.size with
        | false => simp [hz, runOp, rNo] at hop
        | true =>
          simp only [hz, cond_true, Option.getD_some, runOp, rMkS] at hop
          have hz' := Nat.eq_of_beq_eq_true hz
          split at hop
          · rename_i l' c' hl hc
            split at hop
            · rename_i hle
              obtain ⟨rfl, rfl⟩ := newB_ok hop
              rw [newS_nx] at hoff
              rw [Bool.and_eq_true] at hle
              have hlc := Nat.le_of_ble_eq_true hle.1
              have hroom : c' * Nat.succ i.bytes ≤ 1000000 := Nat.le_of_ble_eq_true hle.2
              obtain ⟨kl, el⟩ := asNat_ok hl (ev ht l)
              obtain ⟨kc, ec⟩ := asNat_ok hc (ev ht c)
              have hc' : c' ≤ 1000000 := Nat.le_trans (Nat.le_mul_of_pos_right _ (Nat.succ_pos _)) hroom
              have hb : c' * i.bytes ≤ 1000000 := Nat.le_trans (Nat.mul_le_mul_left _ (Nat.le_succ _)) hroom
              have hzl : z.cells.size = j.size := by
                have := ((toAV_ok σ D z).cells).length
                rw [h6] at hz'
                rw [← h4, ← hz', this]; simp
              have hrun : (execOp a.eval o).run P w = .ok (.value (.slice (some ⟨w.heap.size, 0, none⟩) l' c')) { w with heap := w.heap.push (.cells ⟨((Array.range (c' * z.cells.size)).map (z.cells[· % z.cells.size]!)).toList ++ []⟩ e) } := by
                simp only [execOp, ho, Instr.makeSlice, Sem.run_bind, run_und hu, Result.andThen_ok, el, ec, asInt, asIntOf, Sem.run_pure, run_inf h2, i64_wrap (Nat.le_trans hlc hc'), i64_wrap hc']
                have h48 : (2 : Int) ^ 48 = 281474976710656 := by decide
                have hbb : (j.bytes : Int) * (c' : Int) ≤ 1000000 := by rw [← h5, Int.mul_comm]; have h := Int.ofNat_le.2 hb; rw [Int.natCast_mul] at h; exact h
                have a1 : decide ((c' : Int) < 0) = false := decide_eq_false (by omega)
                have a2 : decide ((j.bytes : Int) * (c' : Int) > 2 ^ 48) = false := decide_eq_false (by rw [h48]; omega)
                have a3 : decide ((l' : Int) < 0) = false := decide_eq_false (by omega)
                have a4 : decide ((l' : Int) > (c' : Int)) = false := decide_eq_false (by omega)
                simp only [a1, a2, a3, a4, Bool.or_false, Bool.false_eq_true, if_false, Sem.run_pure, Sem.run_bind, Result.andThen_ok, run_askRoom, run_siz h2, Int.toNat_natCast]
                rw [← hzl]
                by_cases hn : c' * z.cells.size = 0
                · have hr0 : Array.range 0 = #[] := rfl
                  rw [hn]; simp [hr0]; rfl
                · rw [if_neg hn]
                  simp only [Sem.run_bind, run_zer h2 h3, Result.andThen_ok, Sem.run_pure]
                  rw [List.append_nil]
                  rfl
              rw [hrun, h6]
              refine Res.newSl hw hoff zeroRow_ok rfl ?_
              have := R.sl (σ := upF σ s.nx ⟨w.heap.size, 0, ((Array.range (c' * z.cells.size)).map (z.cells[· % z.cells.size]!)).toList.length + ([] : List Value).length⟩) (D := Up D s.nx (Nat.succ s.nx)) s.nx 0 l' c' up_new
              rw [upF_self] at this
              exact this
            · simp at hop
          · simp at hop
    | _ => simp [hu, orBad, runOp, rNo] at hop

/-! bounds -/

theorem bound_run {x : AV} {n y : Nat} {z : Value} {code : BoundsCode} (h : asNat x = some n) (hr : R σ D x z) (hle : n ≤ y) : (Instr.sliceBound z y code).run P w = .ok n w := by
  obtain ⟨k, rfl⟩ := asNat_ok h hr
  simp only [Instr.sliceBound, asIntOf, Sem.run_bind, Sem.run_pure, Result.andThen_ok]
  rw [if_pos ⟨by omega, by omega⟩]
  simp

theorem bounds_run {lo hi mx : Option Operand} {len cap l h m : Nat} {isS : Bool} {len' cap' : Nat} (ht : Rt σ D tm a.tmps)
    (hb : slBounds ((lo.map cOpd).map (evalO tm)) ((hi.map cOpd).map (evalO tm)) ((mx.map cOpd).map (evalO tm)) len cap = some (l, h, m))
    (hlen : len' = len) (hcap : mx = none ∧ cap ≤ cap' ∨ mx ≠ none ∧ cap ≤ cap') :
    (Instr.sliceBounds isS len' cap' (lo.map a.eval) (hi.map a.eval) (mx.map a.eval)).run P w = .ok (l, h, if mx = none then cap' else m) w ∧ l ≤ h ∧ h ≤ m ∧ m ≤ cap ∧ (mx = none → m = cap) := by
  subst hlen
  unfold slBounds at hb
  split at hb
  · simp at hb
  · rename_i m' hm
    split at hb
    · simp at hb
    · rename_i h' hh
      split at hb
      · simp at hb
      · rename_i l' hl
        split at hb
        · rename_i hle
          simp only [Option.some.injEq, Prod.mk.injEq] at hb
          obtain ⟨rfl, rfl, rfl⟩ := hb
          rw [Bool.and_eq_true, Bool.and_eq_true] at hle
          have l1 := Nat.le_of_ble_eq_true hle.1.1
          have l2 := Nat.le_of_ble_eq_true hle.1.2
          have l3 := Nat.le_of_ble_eq_true hle.2
          refine ⟨?_, l3, l2, l1, ?_⟩
          · unfold Instr.sliceBounds
            cases mx with
            | none =>
              have hcc : cap ≤ cap' := by rcases hcap with h | h <;> exact h.2
              simp only [Option.map_none, bnd, Option.some.injEq] at hm; subst hm
              simp only [Option.map_none, Sem.run_bind, Sem.run_pure, Result.andThen_ok, if_true]
              cases hi with
              | none =>
                simp only [Option.map_none, hiOr, Option.some.injEq] at hh; subst hh
                simp only [Option.map_none, Sem.run_pure, Result.andThen_ok]
                cases lo with
                | none => simp only [Option.map_none, bnd, Option.some.injEq] at hl; subst hl; simp
                | some x =>
                  simp only [Option.map_some, bnd] at hl
                  simp only [Option.map_some, Sem.run_bind, Sem.run_pure, bound_run hl (ev ht x) l3, Result.andThen_ok]
              | some y =>
                simp only [Option.map_some, hiOr] at hh
                simp only [Option.map_some, Sem.run_bind, Sem.run_pure, bound_run hh (ev ht y) (Nat.le_trans l2 hcc), Result.andThen_ok]
                cases lo with
                | none => simp only [Option.map_none, bnd, Option.some.injEq] at hl; subst hl; simp
                | some x =>
                  simp only [Option.map_some, bnd] at hl
                  simp only [Option.map_some, Sem.run_bind, Sem.run_pure, bound_run hl (ev ht x) l3, Result.andThen_ok]
            | some u =>
              have hcc : cap ≤ cap' := by rcases hcap with h | h <;> exact h.2
              simp only [Option.map_some, bnd] at hm
              simp only [Option.map_some, Sem.run_bind, bound_run hm (ev ht u) (Nat.le_trans l1 hcc), Result.andThen_ok]
              cases hi with
              | none => simp [hiOr] at hh
              | some y =>
                simp only [Option.map_some, hiOr] at hh
                simp only [Option.map_some, Sem.run_bind, Sem.run_pure, bound_run hh (ev ht y) l2, Result.andThen_ok]
                cases lo with
                | none => simp only [Option.map_none, bnd, Option.some.injEq] at hl; subst hl; simp
                | some x =>
                  simp only [Option.map_some, bnd] at hl
                  simp only [Option.map_some, Sem.run_bind, Sem.run_pure, bound_run hl (ev ht x) l3, Result.andThen_ok]
                  simp
          · intro e; subst e; simpa [bnd] using hm.symm
        · simp at hb
end
end Go.VM

namespace Go.VM
open Go

section
variable {P : Program} {σ : Nat → Loc} {D : Nat → Prop} {s s' : S} {w : World} {a : Act} {tm : T AV} {v : AV} {o : Oper}

theorem Rs.at {a : List AV} {l : List Value} (h : Rs σ D a l) {i : Nat} {x : AV} (hx : a[i]? = some x) : ∃ y, l[i]? = some y ∧ R σ D x y := by
  have hi : i < a.length := (List.getElem?_eq_some_iff.1 hx).1
  obtain ⟨y, hy, hr⟩ := h.get i hi
  refine ⟨y, hy, ?_⟩
  simp only [List.getD, hx, Option.getD_some] at hr
  exact hr

theorem part_ok {t : TypeId} {d : TypeDesc} {i : TypeInfo} {cs : List AV} {l : List Value} {off n : Nat} (hu : P.underlying t = some d) (hi : P.info? t = some i) (hn : n = i.size)
    (h : partV cs off n (isAggD d) = some v) (hr : Rs σ D cs l) : ∃ y, (part t ⟨l⟩ off).run P w = .ok y w ∧ R σ D v y := by
  subst hn
  simp only [part, Sem.run_bind, run_agg hu, Result.andThen_ok]
  cases hd : isAggD d with
  | true =>
    rw [hd] at h
    simp only [partV, Option.some.injEq] at h; subst h
    simp only [if_true, Sem.run_bind, run_siz hi, Result.andThen_ok]
    refine ⟨_, rfl, ?_⟩
    have : (⟨l⟩ : Array Value).extract off (off + i.size) = ⟨(l.drop off).take i.size⟩ := by
      apply Array.ext'
      simp [List.extract_eq_take_drop]
    rw [this]
    exact .agg _ _ ((hr.drop off).take i.size)
  | false =>
    rw [hd] at h
    simp only [partV, List.head?_drop] at h
    obtain ⟨y, hy, hry⟩ := hr.at h
    refine ⟨y, ?_, hry⟩
    have : (⟨l⟩ : Array Value)[off]? = some y := by simpa using hy
    simp [this]

theorem op_fld {t : TypeId} {x : Operand} {f : Nat} (ho : o.op = .field t x f) (hop : runOp (cOp P (.field t x f)) tm s = .val v s') (hw : RW P σ D s w) (ht : Rt σ D tm a.tmps) :
    Res P σ D s w v s' ((execOp a.eval o).run P w) := by
  simp only [cOp] at hop
  cases hu : P.underlying t with
  | none => simp [hu, orBad, runOp, rNo] at hop
  | some d =>
    cases d with
    | struct fs =>
      simp only [hu, orBad, Option.bind_eq_bind, Option.bind_some, pure] at hop
      cases hf : fs[f]? with
      | none => simp [hf, runOp, rNo] at hop
      | some g =>
        cases hug : P.underlying g.type with
        | none => simp [hf, hug, runOp, rNo] at hop
        | some dg =>
          obtain ⟨ig, hig⟩ := und_inf hug
          simp only [hf, hug, Option.bind_some, Option.getD_some, runOp, rFld] at hop
          have hx := ev ht x
          split at hop
          · rename_i cs he
            rw [he] at hx
            obtain ⟨l, hl, hrs⟩ := agg_of hx
            obtain ⟨rfl, hp⟩ := valO_syn hop
            obtain ⟨y, hy, hry⟩ := part_ok (w := w) hug hig (cellsOf_eq hig) hp hrs
            refine Res.of (y := y) ?_ hw hry
            simp only [execOp, ho, Instr.field, Sem.run_bind, run_und hu, Result.andThen_ok, hf, hl, asAgg, Sem.run_pure, hy]
          · simp at hop
    | _ => simp [hu, orBad, runOp, rNo] at hop

theorem op_fadr {t : TypeId} {x : Operand} {f : Nat} (ho : o.op = .fieldAddr t x f) (hop : runOp (cOp P (.fieldAddr t x f)) tm s = .val v s') (hw : RW P σ D s w) (ht : Rt σ D tm a.tmps) :
    Res P σ D s w v s' ((execOp a.eval o).run P w) := by
  simp only [cOp] at hop
  cases hu : P.underlying t with
  | none => simp [hu, orBad, runOp, rNo] at hop
  | some d =>
    cases d with
    | struct fs =>
      simp only [hu, orBad, Option.bind_eq_bind, Option.bind_some, pure] at hop
      cases hf : fs[f]? with
      | none => simp [hf, runOp, rNo] at hop
      | some g =>
        by_cases hz : P.cellsOf g.type = 0
        · simp [hf, hz, runOp, rNo] at hop
        · simp only [hf, hz, Option.bind_some, if_false, Option.getD_some, runOp, rFadr] at hop
          cases hig : P.info? g.type with
          | none => exact absurd (by simp [Program.cellsOf, hig]) hz
          | some ig =>
            have hx := ev ht x
            split at hop
            · rename_i b o' he
              rw [he] at hx
              obtain ⟨h1, hD⟩ := ptr_of hx
              obtain ⟨rfl, rfl⟩ := val_inj hop
              have hne : ¬ ig.size = 0 := fun e => hz (by rw [cellsOf_eq hig, e])
              refine Res.of (y := .pointer (some ⟨(σ b).blk, (σ b).base + (o' + g.offset), none⟩)) ?_ hw (.ptr _ _ hD)
              simp only [execOp, ho, Instr.fieldAt, Sem.run_bind, run_und hu, Result.andThen_ok, hf, h1, Instr.sureAddr, Sem.run_pure, fieldPlace, run_siz hig, hne, if_false, addr_add, Nat.add_assoc]
            · simp at hop
    | _ => simp [hu, orBad, runOp, rNo] at hop

theorem op_ext {x : Operand} {i : Nat} (ho : o.op = .extract x i) (hop : runOp (cOp P (.extract x i)) tm s = .val v s') (hw : RW P σ D s w) (ht : Rt σ D tm a.tmps) :
    Res P σ D s w v s' ((execOp a.eval o).run P w) := by
  simp only [cOp, runOp, rExt] at hop
  have hx := ev ht x
  split at hop
  · rename_i vs he
    rw [he] at hx
    obtain ⟨l, hl, hrs⟩ := tup_of hx
    obtain ⟨rfl, hp⟩ := valO_syn hop
    rw [List.head?_drop] at hp
    obtain ⟨y, hy, hry⟩ := hrs.at hp
    refine Res.of (y := y) ?_ hw hry
    have : (⟨l⟩ : Array Value)[i]? = some y := by simpa using hy
    simp only [execOp, ho, Instr.extract, hl, this, Sem.run_bind, Sem.run_pure, Result.andThen_ok]
  · simp at hop

theorem op_idx {t : TypeId} {x i : Operand} (ho : o.op = .index t x i) (hop : runOp (cOp P (.index t x i)) tm s = .val v s') (hw : RW P σ D s w) (ht : Rt σ D tm a.tmps) :
    Res P σ D s w v s' ((execOp a.eval o).run P w) := by
  simp only [cOp] at hop
  have hx := ev ht x
  cases hu : P.underlying t with
  | none => simp [hu, orBad, runOp, rNo] at hop
  | some d =>
    cases d with
    | string =>
      simp only [hu, orBad, pure, Option.getD_some, runOp, rIdx] at hop
      split at hop
      · simp at hop
      · rename_i n hn
        obtain ⟨k, ek⟩ := asNat_ok hn (ev ht i)
        split at hop
        · rename_i l he
          rw [he] at hx
          obtain ⟨h1, hb⟩ := str_of hx
          split at hop
          · rename_i c hc
            obtain ⟨rfl, rfl⟩ := val_inj hop
            rw [List.head?_drop] at hc
            refine Res.of (y := .int .u8 (c : Int)) ?_ hw (.int _ _)
            have hlt := (List.getElem?_eq_some_iff.1 hc)
            obtain ⟨hl, hce⟩ := hlt
            have hcb : c < 256 := hb c (List.mem_of_getElem? hc)
            have hg : (enc l)[n]? = some (UInt8.ofNat c) := by
              have hs : n < (enc l).size := by rw [enc_size]; exact hl
              rw [getElem?_pos (enc l) n hs]
              congr 1
              show (enc l).data[n] = _
              simp [enc, hce]
            simp only [execOp, ho, Instr.index, Sem.run_bind, ek, asIntOf, Sem.run_pure, Result.andThen_ok, run_und hu, h1]
            rw [if_pos (by omega), Int.toNat_natCast, hg]
            simp only [Sem.run_pure, Result.andThen_ok]
            congr 3
            simp [UInt8.toNat_ofNat']; omega
          · simp at hop
        · simp at hop
    | array n e =>
      cases hue : P.underlying e with
      | none => simp [hu, hue, orBad, runOp, rNo] at hop
      | some de =>
        obtain ⟨ie, hie⟩ := und_inf hue
        simp only [hu, hue, orBad, pure, Option.bind_eq_bind, Option.bind_some, Option.getD_some, runOp, rIdx] at hop
        split at hop
        · simp at hop
        · rename_i m hm
          obtain ⟨k, ek⟩ := asNat_ok hm (ev ht i)
          split at hop
          · rename_i cs he
            rw [he] at hx
            obtain ⟨l, hl, hrs⟩ := agg_of hx
            split at hop
            · rename_i hlt
              have hlt' : m < n := Nat.le_of_ble_eq_true hlt
              obtain ⟨rfl, hp⟩ := valO_syn hop
              obtain ⟨y, hy, hry⟩ := part_ok (w := w) hue hie (cellsOf_eq hie) hp hrs
              refine Res.of (y := y) ?_ hw hry
              rw [cellsOf_eq hie] at hy
              simp only [execOp, ho, Instr.index, Sem.run_bind, ek, asIntOf, Sem.run_pure, Result.andThen_ok, run_und hu, hl]
              rw [if_pos ⟨by omega, by omega⟩, Int.toNat_natCast]
              simp only [Sem.run_bind, run_siz hie, Result.andThen_ok]
              have : (part e ⟨l⟩ (m * ie.size)).run P w = .ok y w := hy
              rw [this]; rfl
            · simp at hop
          · simp at hop
    | _ => simp [hu, orBad, runOp, rNo] at hop

theorem op_iadr {t : TypeId} {x i : Operand} (ho : o.op = .indexAddr t x i) (hop : runOp (cOp P (.indexAddr t x i)) tm s = .val v s') (hw : RW P σ D s w) (ht : Rt σ D tm a.tmps) :
    Res P σ D s w v s' ((execOp a.eval o).run P w) := by
  simp only [cOp] at hop
  have hx := ev ht x
  cases hu : P.underlying t with
  | none => simp [hu, orBad, runOp, rNo] at hop
  | some d =>
    cases d with
    | array n e =>
      cases hie : P.info? e with
      | none => simp [hu, hie, orBad, runOp, rNo] at hop
      | some ie =>
        simp only [hu, hie, orBad, Option.map_some, Option.getD_some, runOp, rIadr] at hop
        split at hop
        · simp at hop
        · rename_i m hm
          obtain ⟨k, ek⟩ := asNat_ok hm (ev ht i)
          split at hop
          · rename_i b o' he
            rw [he] at hx
            obtain ⟨h1, hD⟩ := ptr_of hx
            split at hop
            · rename_i hlt
              have hlt' : m < n := Nat.le_of_ble_eq_true hlt
              obtain ⟨rfl, rfl⟩ := val_inj hop
              refine Res.of (y := .pointer (some ⟨(σ b).blk, (σ b).base + (o' + m * ie.size), none⟩)) ?_ hw (.ptr _ _ hD)
              simp only [execOp, ho, Instr.indexAt, Sem.run_bind, ek, asIntOf, Sem.run_pure, Result.andThen_ok, run_und hu, h1, Instr.sureAddr]
              rw [if_pos ⟨by omega, by omega⟩, Int.toNat_natCast]
              simp only [Sem.run_bind, run_siz hie, Result.andThen_ok, addr_add, Nat.add_assoc, Sem.run_pure]
            · simp at hop
          · simp at hop
    | slice e =>
      cases hie : P.info? e with
      | none => simp [hu, hie, orBad, runOp, rNo] at hop
      | some ie =>
        simp only [hu, hie, orBad, Option.map_some, Option.getD_some, runOp, rIadr] at hop
        split at hop
        · simp at hop
        · rename_i m hm
          obtain ⟨k, ek⟩ := asNat_ok hm (ev ht i)
          have hgo : ∀ (b o' len cap : Nat), D b → a.eval x = .slice (some ⟨(σ b).blk, (σ b).base + o', none⟩) len cap →
              (match Nat.blt m len with | true => Nx.val (.ptr b (Nat.add o' (Nat.mul m ie.size))) s | false => .no) = .val v s' → Res P σ D s w v s' ((execOp a.eval o).run P w) := by
            intro b o' len cap hD hxv hop
            split at hop
            · rename_i hlt
              have hlt' : m < len := Nat.le_of_ble_eq_true hlt
              obtain ⟨rfl, rfl⟩ := val_inj hop
              refine Res.of (y := .pointer (some ⟨(σ b).blk, (σ b).base + (o' + m * ie.size), none⟩)) ?_ hw (.ptr _ _ hD)
              simp only [execOp, ho, Instr.indexAt, Sem.run_bind, ek, asIntOf, Sem.run_pure, Result.andThen_ok, run_und hu, hxv]
              rw [if_pos ⟨by omega, by omega⟩, Int.toNat_natCast]
              simp only [Sem.run_bind, run_siz hie, Result.andThen_ok, addr_add, Nat.add_assoc, Sem.run_pure]
            · simp at hop
          split at hop
          · rename_i b o' len c he
            rw [he] at hx
            obtain ⟨h1, h2⟩ := sl_of hx
            exact hgo b o' len c h2 h1 hop
          · rename_i b o' len c he
            rw [he] at hx
            obtain ⟨cap, h1, h2, _⟩ := slo_of hx
            exact hgo b o' len cap h2 h1 hop
          · simp at hop
    | _ => simp [hu, orBad, runOp, rNo] at hop
end
end Go.VM

namespace Go.VM
open Go

section
variable {P : Program} {σ : Nat → Loc} {D : Nat → Prop} {s s' : S} {w : World} {a : Act} {tm : T AV} {v : AV} {o : Oper}

theorem sameOr_eq (m l o o' : Nat) : sameOr m l o o' = if m = l then o else o' := by
  unfold sameOr
  by_cases h : m = l
  · subst h; rw [Nat.beq_refl]; simp
  · rw [if_neg h]
    have : Nat.beq m l = false := by rw [Bool.eq_false_iff]; exact fun e => h (Nat.eq_of_beq_eq_true e)
    rw [this]

theorem addr_if (b base o z l m : Nat) : (if m = l then (⟨b, base + o, none⟩ : Addr) else ⟨b, base + o + l * z, none⟩) = ⟨b, base + (if m = l then o else o + l * z), none⟩ := by
  by_cases h : m = l
  · rw [if_pos h, if_pos h]
  · rw [if_neg h, if_neg h, Nat.add_assoc]

theorem enc_extract (l : List Nat) (i j : Nat) : (enc l).extract i j = enc ((l.drop i).take (j - i)) := by
  apply ByteArray.ext
  apply Array.ext'
  simp [enc, List.extract_eq_take_drop, List.map_take, List.map_drop]

theorem op_slc {t : TypeId} {x : Operand} {lo hi mx : Option Operand} (ho : o.op = .slice t x lo hi mx) (hop : runOp (cOp P (.slice t x lo hi mx)) tm s = .val v s') (hw : RW P σ D s w) (ht : Rt σ D tm a.tmps) :
    Res P σ D s w v s' ((execOp a.eval o).run P w) := by
  have hx := ev ht x
  simp only [cOp] at hop
  cases hu : P.underlying t with
  | none => simp [hu, orBad, runOp, rNo] at hop
  | some d =>
    cases d with
    | string =>
      simp only [hu, orBad, Option.bind_eq_bind, Option.bind_some, pure, Option.getD_some, runOp, rSlc] at hop
      obtain ⟨rfl, hv⟩ := valO_syn hop
      unfold slcV at hv
      split at hv
      · rename_i l _ he
        rw [he] at hx
        obtain ⟨h1, hb⟩ := str_of hx
        split at hv
        · simp at hv
        · rename_i hmx
          have hmn : mx = none := by cases mx <;> simp at hmx ⊢
          subst hmn
          split at hv
          · rename_i a' b' m' hsb
            simp only [Option.some.injEq] at hv; subst hv
            obtain ⟨hrun, h2, h3, h4, h5⟩ := bounds_run (P := P) (w := w) (isS := false) (mx := none) ht hsb rfl (.inl ⟨rfl, Nat.le_refl _⟩)
            refine Res.of (y := .string (enc ((l.drop a').take (b' - a')))) ?_ hw (.str _ fun c hc => hb c (List.mem_of_mem_drop (List.mem_of_mem_take hc)))
            simp only [Option.map_none] at hrun
            simp only [execOp, ho, Instr.sliceAt, Instr.slice, Sem.run_bind, run_und hu, Result.andThen_ok, h1, Option.map_none, Option.isSome_none, Bool.false_eq_true, if_false, enc_size, hrun, enc_extract, Sem.run_pure]
          · simp at hv
      all_goals simp_all
    | slice e =>
      cases hie : P.info? e with
      | none => simp [hu, hie, orBad, runOp, rNo] at hop
      | some ie =>
        simp only [hu, hie, orBad, Option.map_some, Option.bind_eq_bind, Option.bind_some, pure, Option.getD_some, runOp, rSlc] at hop
        obtain ⟨rfl, hv⟩ := valO_syn hop
        have hex : ∀ (ad : Option Addr) (len cap l h m : Nat), a.eval x = .slice ad len cap →
            (Instr.sliceBounds true len cap (lo.map a.eval) (hi.map a.eval) (mx.map a.eval)).run P w = .ok (l, h, m) w →
            (execOp a.eval o).run P w = .ok (.value (.slice (if m = l then ad else ad.map (·.add (l * ie.size))) (h - l) (m - l))) w := by
          intro ad len cap l h m hxv hb
          simp only [execOp, ho, Instr.sliceAt, Instr.slice, Sem.run_bind, run_und hu, Result.andThen_ok, hxv, hb, run_siz hie, Sem.run_pure]
        unfold slcV at hv
        split at hv
        · simp_all
        · rename_i esz b o' len cap hk he
          injection hk with hk; subst hk
          rw [he] at hx
          obtain ⟨h1, hD⟩ := sl_of hx
          split at hv
          · rename_i l h m hsb
            simp only [Option.some.injEq] at hv; subst hv
            obtain ⟨hrun, h2, h3, h4, h5⟩ := bounds_run (P := P) (w := w) (isS := true) (cap' := cap) ht hsb rfl (by cases mx <;> simp)
            have hm : (if mx = none then cap else m) = m := by
              by_cases e : mx = none
              · rw [if_pos e, h5 e]
              · rw [if_neg e]
            rw [hm] at hrun
            refine Res.of (y := .slice (some ⟨(σ b).blk, (σ b).base + sameOr m l o' (o' + l * ie.size), none⟩) (h - l) (m - l)) ?_ hw (.sl _ _ _ _ hD)
            rw [hex _ _ _ _ _ _ h1 hrun, sameOr_eq]
            congr 3
            by_cases e : m = l
            · rw [if_pos e, if_pos e]
            · rw [if_neg e, if_neg e]; simp [addr_add, Nat.add_assoc]
          · simp at hv
        · rename_i esz b o' len ez hk he
          injection hk with hk; subst hk
          rw [he] at hx
          obtain ⟨cap, h1, hD, hcap, htot⟩ := slo_of hx
          split at hv
          · simp at hv
          · rename_i heq
            have heq' := Nat.eq_of_beq_eq_true heq
            subst heq'
            split at hv
            · rename_i vm hmx
              have hmn : mx ≠ none := by intro e; subst e; simp at hmx
              rw [← hmx] at hv
              split at hv
              · rename_i l h m hsb
                split at hv
                · simp at hv
                · rename_i hml
                  simp only [Option.some.injEq] at hv; subst hv
                  obtain ⟨hrun, h2, h3, h4, h5⟩ := bounds_run (P := P) (w := w) (isS := true) (cap' := cap) ht hsb rfl (.inr ⟨hmn, hcap⟩)
                  rw [if_neg hmn] at hrun
                  have hne : ¬ m = l := fun e => by subst e; rw [Nat.beq_refl] at hml; simp at hml
                  refine Res.of (y := .slice (some ⟨(σ b).blk, (σ b).base + (o' + l * ie.size), none⟩) (h - l) (m - l)) ?_ hw (.sl _ _ _ _ hD)
                  rw [hex _ _ _ _ _ _ h1 hrun, if_neg hne]
                  simp [addr_add, Nat.add_assoc]
              · simp at hv
            · rename_i hmx
              have hmn : mx = none := by cases mx <;> simp at hmx ⊢
              subst hmn
              split at hv
              · rename_i l h m hsb
                obtain ⟨hrun, h2, h3, h4, h5⟩ := bounds_run (P := P) (w := w) (isS := true) (cap' := cap) (mx := none) ht hsb rfl (.inl ⟨rfl, hcap⟩)
                rw [if_pos rfl] at hrun
                have hml := h5 rfl
                split at hv
                · rename_i hc
                  simp only [Option.some.injEq] at hv; subst hv
                  rw [Bool.and_eq_true] at hc
                  have hll := Nat.eq_of_beq_eq_true hc.1
                  have hh : h - l = 0 := by omega
                  refine Res.of (y := .slice (if cap = l then some ⟨(σ b).blk, (σ b).base + o', none⟩ else (some (⟨(σ b).blk, (σ b).base + o', none⟩ : Addr)).map (·.add (l * ie.size))) 0 (cap - l)) ?_ hw (.sle _ _)
                  rw [hex _ _ _ _ _ _ h1 hrun, hh]
                · rename_i hc
                  simp only [Option.some.injEq] at hv; subst hv
                  refine Res.of (y := .slice (some ⟨(σ b).blk, (σ b).base + (o' + l * ie.size), none⟩) (h - l) (cap - l)) ?_ hw (.slo _ _ _ _ _ hD (by omega) ?_)
                  · rw [hex _ _ _ _ _ _ h1 hrun]
                    congr 3
                    by_cases e : cap = l
                    · rw [if_pos e]
                      have hl0 : l = 0 := by
                        by_cases e0 : l = 0
                        · exact e0
                        · exfalso
                          have h6 : l = len := by omega
                          rw [h6, Nat.beq_refl] at hc
                          have : Nat.beq len 0 = false := by rw [Bool.eq_false_iff]; exact fun e => e0 (by rw [h6]; exact Nat.eq_of_beq_eq_true e)
                          rw [this] at hc; simp at hc
                      subst hl0; simp
                    · rw [if_neg e]; simp [addr_add, Nat.add_assoc]
                  · have : l * ie.size + (cap - l) * ie.size = cap * ie.size := by rw [← Nat.add_mul]; congr 1; omega
                    omega
              · simp at hv
        · rename_i esz hk he
          injection hk with hk; subst hk
          rw [he] at hx
          have h1 := snil_of hx
          split at hv
          · rename_i r hsb
            simp only [Option.some.injEq] at hv; subst hv
            obtain ⟨l, h, m⟩ := r
            obtain ⟨hrun, h2, h3, h4, h5⟩ := bounds_run (P := P) (w := w) (isS := true) (cap' := 0) ht hsb rfl (by cases mx <;> simp)
            have hm : (if mx = none then 0 else m) = m := by
              by_cases e : mx = none
              · rw [if_pos e, h5 e]
              · rw [if_neg e]
            rw [hm] at hrun
            refine Res.of (y := .slice none 0 0) ?_ hw .snil
            rw [hex _ _ _ _ _ _ h1 hrun]
            have e1 : h - l = 0 := by omega
            have e2 : m - l = 0 := by omega
            rw [e1, e2]; simp
          · simp at hv
        · simp_all
        · simp at hv
    | array n e =>
      cases hie : P.info? e with
      | none => simp [hu, hie, orBad, runOp, rNo] at hop
      | some ie =>
        simp only [hu, hie, orBad, Option.map_some, Option.bind_eq_bind, Option.bind_some, pure, Option.getD_some, runOp, rSlc] at hop
        obtain ⟨rfl, hv⟩ := valO_syn hop
        unfold slcV at hv
        split at hv
        all_goals first | (simp at hv; done) | (simp_all; done) | skip
        rename_i n' esz b o' hk he
        injection hk with hk1 hk2; subst hk1; subst hk2
        rw [he] at hx
        obtain ⟨h1, hD⟩ := ptr_of hx
        split at hv
        · rename_i l h m hsb
          simp only [Option.some.injEq] at hv; subst hv
          obtain ⟨hrun, h2, h3, h4, h5⟩ := bounds_run (P := P) (w := w) (isS := false) (cap' := n) ht hsb rfl (by cases mx <;> simp)
          have hm : (if mx = none then n else m) = m := by
            by_cases e : mx = none
            · rw [if_pos e, h5 e]
            · rw [if_neg e]
          rw [hm] at hrun
          refine Res.of (y := .slice (some ⟨(σ b).blk, (σ b).base + sameOr m l o' (o' + l * ie.size), none⟩) (h - l) (m - l)) ?_ hw (.sl _ _ _ _ hD)
          simp only [execOp, ho, Instr.sliceAt, Sem.run_bind, run_und hu, Result.andThen_ok, h1, Instr.sureAddr, Sem.run_pure, hrun, run_siz hie, sameOr_eq]
          congr 3
          by_cases e : m = l
          · rw [if_pos e, if_pos e]
          · rw [if_neg e, if_neg e]; simp [addr_add, Nat.add_assoc]
        · simp at hv
    | pointer p =>
      cases hup : P.underlying p with
      | none => simp [hu, hup, orBad, runOp, rNo] at hop
      | some dp =>
        cases dp with
        | array n e =>
          cases hie : P.info? e with
          | none => simp [hu, hup, hie, orBad, runOp, rNo] at hop
          | some ie =>
            simp only [hu, hup, hie, orBad, Option.map_some, Option.bind_eq_bind, Option.bind_some, pure, Option.getD_some, runOp, rSlc] at hop
            obtain ⟨rfl, hv⟩ := valO_syn hop
            unfold slcV at hv
            split at hv
            all_goals first | (simp at hv; done) | (simp_all; done) | skip
            rename_i n' esz b o' hk he
            injection hk with hk1 hk2; subst hk1; subst hk2
            rw [he] at hx
            obtain ⟨h1, hD⟩ := ptr_of hx
            split at hv
            · rename_i l h m hsb
              simp only [Option.some.injEq] at hv; subst hv
              obtain ⟨hrun, h2, h3, h4, h5⟩ := bounds_run (P := P) (w := w) (isS := false) (cap' := n) ht hsb rfl (by cases mx <;> simp)
              have hm : (if mx = none then n else m) = m := by
                by_cases e : mx = none
                · rw [if_pos e, h5 e]
                · rw [if_neg e]
              rw [hm] at hrun
              refine Res.of (y := .slice (some ⟨(σ b).blk, (σ b).base + sameOr m l o' (o' + l * ie.size), none⟩) (h - l) (m - l)) ?_ hw (.sl _ _ _ _ hD)
              simp only [execOp, ho, Instr.sliceAt, Instr.slice, Sem.run_bind, run_und hu, run_und hup, Result.andThen_ok, h1, asAddr, Sem.run_pure, hrun, run_siz hie, sameOr_eq]
              congr 3
              by_cases e : m = l
              · rw [if_pos e, if_pos e]
              · rw [if_neg e, if_neg e]; simp [addr_add, Nat.add_assoc]
            · simp at hv
        | _ => simp [hu, hup, orBad, runOp, rNo] at hop
    | _ => simp [hu, orBad, runOp, rNo] at hop
end
end Go.VM

namespace Go.VM
open Go

section
variable {P : Program} {σ : Nat → Loc} {D : Nat → Prop} {s s' : S} {w : World} {a : Act} {tm : T AV} {v : AV} {o : Oper}

theorem op_tass {x : Operand} {xt t : TypeId} {ok : Bool} (ho : o.op = .typeAssert x xt t ok) (hop : runOp (cOp P (.typeAssert x xt t ok)) tm s = .val v s') (hw : RW P σ D s w) (ht : Rt σ D tm a.tmps) :
    Res P σ D s w v s' ((execOp a.eval o).run P w) := by
  simp only [cOp] at hop
  have hx := ev ht x
  cases hi : tyI P t with
  | none => simp [hi, orBad, runOp, rNo] at hop
  | some i =>
    obtain ⟨j, z, h1, h2, h3, h4, h5, h6⟩ := tyI_ok hi
    by_cases hni : ∃ ms, i.d = .interface ms
    · obtain ⟨ms, hm⟩ := hni
      simp [hi, hm, orBad, runOp, rNo] at hop
    · replace hop : runOp (AOp.tass t i.zero (cOpd x) ok) tm s = .val v s' := by
        simp only [hi, orBad, Option.bind_eq_bind, Option.bind_some] at hop
        clear hw ht hx
        revert hop
        cases hd : i.d <;> intro hop <;> first | exact (hni ⟨_, hd⟩).elim | exact hop
      simp only [runOp, rTass] at hop
      have hn : a.eval x = .nilIface → ok = true → (Instr.typeAssert (a.eval x) xt t ok).run P w = .ok (.tuple #[z, .bool false]) w := by
        intro e1 e2
        subst e2
        simp only [Instr.typeAssert, Sem.run_bind, run_und h1, Result.andThen_ok, e1, if_true]
        cases hd : i.d <;> first | exact (hni ⟨_, hd⟩).elim | simp only [Sem.run_bind, run_zer h2 h3, Result.andThen_ok, Sem.run_pure]
      have hy : ∀ t' y, a.eval x = .iface t' y → t' = t → (Instr.typeAssert (a.eval x) xt t ok).run P w = .ok (if ok then .tuple #[y, .bool true] else y) w := by
        intro t' y e1 e2
        subst e2
        simp only [Instr.typeAssert, Sem.run_bind, run_und h1, Result.andThen_ok, e1, if_true]
        cases hd : i.d <;> first | exact (hni ⟨_, hd⟩).elim | simp only [if_true, Sem.run_pure]
      have hz : ∀ t' y, a.eval x = .iface t' y → t' ≠ t → ok = true → (Instr.typeAssert (a.eval x) xt t ok).run P w = .ok (.tuple #[z, .bool false]) w := by
        intro t' y e1 e2 e3
        subst e3
        simp only [Instr.typeAssert, Sem.run_bind, run_und h1, Result.andThen_ok, e1, if_true]
        cases hd : i.d <;> first | exact (hni ⟨_, hd⟩).elim | simp only [e2, if_false, Sem.run_bind, run_zer h2 h3, Result.andThen_ok, Sem.run_pure]
      have hex : ∀ y, (Instr.typeAssert (a.eval x) xt t ok).run P w = .ok y w → (execOp a.eval o).run P w = .ok (.value y) w := by
        intro y h
        simp only [execOp, ho, Sem.run_bind, h, Result.andThen_ok, Sem.run_pure]
      have hzr : R σ D (.tup [i.zero, .bool false]) (.tuple #[z, .bool false]) := by
        rw [h6]; exact .tup _ _ (.cons _ _ _ _ (toAV_ok σ D z) (.cons _ _ _ _ (.bool _) .nil))
      split at hop
      · rename_i he
        rw [he] at hx
        have hv : a.eval x = .nilIface := by generalize a.eval x = q at hx; cases hx; rfl
        split at hop
        · obtain ⟨rfl, rfl⟩ := val_inj hop
          exact Res.of (hex _ (hn hv rfl)) hw hzr
        · simp at hop
      · rename_i t' v' he
        rw [he] at hx
        obtain ⟨y, hv, hr⟩ : ∃ y, a.eval x = .iface t' y ∧ R σ D v' y := by
          generalize a.eval x = q at hx; cases hx; exact ⟨_, rfl, by assumption⟩
        split at hop
        · rename_i hte
          have hte' : t = t' := Nat.eq_of_beq_eq_true hte
          subst hte'
          unfold lkpR at hop
          split at hop
          · obtain ⟨rfl, rfl⟩ := val_inj hop
            exact Res.of (hex _ (hy _ _ hv rfl)) hw (.tup _ _ (.cons _ _ _ _ hr (.cons _ _ _ _ (.bool _) .nil)))
          · obtain ⟨rfl, rfl⟩ := val_inj hop
            exact Res.of (hex _ (hy _ _ hv rfl)) hw hr
        · rename_i hte
          split at hop
          · obtain ⟨rfl, rfl⟩ := val_inj hop
            refine Res.of (hex _ (hz _ _ hv ?_ rfl)) hw hzr
            intro e; subst e; rw [Nat.beq_refl] at hte; simp at hte
          · simp at hop
      · simp at hop

theorem vget {r : Nat} {es : Array MapEntry} {ck : Nat} (h : w.heap[r]? = some (.map es ck)) : (getObj r).run P w = .ok (.map es ck) w := by simp [getObj, Sem.run, h]
theorem vset {r : Nat} {es : Array MapEntry} {ck : Nat} (nb : Obj) (h : w.heap[r]? = some (.map es ck)) : (setObj r nb).run P w = .ok () { w with heap := w.heap.setIfInBounds r nb } := by simp [setObj, Sem.run, h]

/-! the calls of what is built in -/

theorem map1 {l : List Operand} {x : Opd} (h : l.map cOpd = [x]) : ∃ y, l = [y] ∧ x = cOpd y := by
  cases l with
  | nil => simp at h
  | cons y l => cases l with
    | nil => simp at h; exact ⟨y, rfl, h.symm⟩
    | cons _ _ => simp at h
theorem map2 {l : List Operand} {x y : Opd} (h : l.map cOpd = [x, y]) : ∃ p q, l = [p, q] ∧ x = cOpd p ∧ y = cOpd q := by
  cases l with
  | nil => simp at h
  | cons p l => cases l with
    | nil => simp at h
    | cons q l => cases l with
      | nil => simp at h; exact ⟨p, q, rfl, h.1.symm, h.2.symm⟩
      | cons _ _ => simp at h

theorem bi_run {c : Call} {b : Builtin} (ho : o.op = .call c) (hb : c.callee = .builtin b) :
    ∃ k, (execOp a.eval o).run P w = (builtin b c.argTypes o.type k (c.args.map a.eval)).run P w := by
  refine ⟨c.args.map fun | .const _ => true | _ => false, ?_⟩
  simp only [execOp, ho, resolve, hb, Sem.run_bind, Sem.run_pure, Result.andThen_ok, invoke]
  rfl

theorem bi_val {c : Call} {b : Builtin} {f : Sem Value} (ho : o.op = .call c) (hb : c.callee = .builtin b)
    (hf : ∀ k, builtin b c.argTypes o.type k (c.args.map a.eval) = (do pure (.value (← f)))) {y : Value} {w' : World} (hr : f.run P w = .ok y w') :
    (execOp a.eval o).run P w = .ok (.value y) w' := by
  obtain ⟨k, hk⟩ := bi_run (P := P) (w := w) (a := a) ho hb
  rw [hk, hf]
  simp only [Sem.run_bind, hr, Result.andThen_ok, Sem.run_pure]

theorem arr_of {c : Call} {l : List Operand} (h : c.args.toList = l) : c.args = ⟨l⟩ := by apply Array.ext'; simpa using h

theorem op_len {c : Call} {x : Operand} (ho : o.op = .call c) (hb : c.callee = .builtin .len) (hc : c.args = ⟨[x]⟩)
    (hop : runOp (cBuiltin P .len c.argTypes [cOpd x]) tm s = .val v s') (hw : RW P σ D s w) (ht : Rt σ D tm a.tmps) :
    Res P σ D s w v s' ((execOp a.eval o).run P w) := by
  have hx := ev ht x
  simp only [cBuiltin] at hop
  cases ha : c.argTypes[0]? with
  | none => simp [ha, orBad, runOp, rNo] at hop
  | some t =>
    cases hu : P.underlying t with
    | none => simp [ha, hu, orBad, runOp, rNo] at hop
    | some d =>
      have hex : ∀ (n : Nat), (Builtin.len_ c.argTypes o.type (c.args.map a.eval)).run P w = .ok (goInt n) w → Res P σ D s w (.int .i64 (.ofNat n)) s ((execOp a.eval o).run P w) :=
        fun n hn => Res.of (bi_val ho hb (fun _ => rfl) hn) hw (.int _ _)
      have hl : (c.args.map a.eval)[0]? = some (a.eval x) := by rw [hc]; simp
      simp only [ha, hu, orBad, Option.bind_eq_bind, Option.bind_some, pure] at hop
      cases d with
      | string =>
        simp only [Option.getD_some, runOp, rLen, lenV] at hop
        split at hop
        · rename_i n hn
          obtain ⟨rfl, rfl⟩ := val_inj hop
          split at hn
          · rename_i l he
            rw [he] at hx
            simp only [Option.some.injEq] at hn; subst hn
            refine hex _ ?_
            simp only [Builtin.len_, ha, hl, Sem.run_bind, run_und hu, Result.andThen_ok, (str_of hx).1, Sem.run_pure, enc_size]
          · simp at hn
        · simp at hop
      | array n e =>
        simp only [Option.getD_some, runOp, rLen, lenV] at hop
        obtain ⟨rfl, rfl⟩ := val_inj hop
        refine hex _ ?_
        simp only [Builtin.len_, ha, hl, Sem.run_bind, run_und hu, Result.andThen_ok, Sem.run_pure]
      | pointer p =>
        cases hup : P.underlying p with
        | none => simp [hup, runOp, rNo] at hop
        | some dp =>
          cases dp with
          | array n e =>
            simp only [hup, Option.getD_some, runOp, rLen, lenV] at hop
            obtain ⟨rfl, rfl⟩ := val_inj hop
            refine hex _ ?_
            simp only [Builtin.len_, ha, hl, Sem.run_bind, run_und hu, run_und hup, Result.andThen_ok, Sem.run_pure]
          | _ => simp [hup, runOp, rNo] at hop
      | slice e =>
        simp only [Option.getD_some, runOp, rLen, lenV] at hop
        split at hop
        · rename_i n hn
          obtain ⟨rfl, rfl⟩ := val_inj hop
          have : ∃ ad cap, a.eval x = .slice ad n cap := by
            split at hn
            all_goals first | (simp at hn; done) | skip
            all_goals
              rename_i he
              rw [he] at hx
              simp only [Option.some.injEq] at hn; subst hn
              generalize a.eval x = q at hx
              cases hx; exact ⟨_, _, rfl⟩
          obtain ⟨ad, cap, hv⟩ := this
          refine hex _ ?_
          simp only [Builtin.len_, ha, hl, Sem.run_bind, run_und hu, Result.andThen_ok, hv, Sem.run_pure]
        · simp at hop
      | map k e =>
        simp only [Option.getD_some, runOp, rLen, lenV] at hop
        split at hop
        · rename_i n hn
          obtain ⟨rfl, rfl⟩ := val_inj hop
          split at hn
          · rename_i he
            rw [he] at hx
            simp only [Option.some.injEq] at hn; subst hn
            have hv : a.eval x = .map none := by generalize a.eval x = q at hx; cases hx; rfl
            refine hex _ ?_
            simp only [Builtin.len_, ha, hl, Sem.run_bind, run_und hu, Result.andThen_ok, hv, Sem.run_pure]
            rfl
          · rename_i r he
            rw [he] at hx
            obtain ⟨hv, hD⟩ := map_of hx
            split at hn
            · rename_i es hg
              simp only [Option.some.injEq] at hn; subst hn
              have ho' := hw.obj r (by rw [hg]; simp)
              rw [hg] at ho'
              obtain ⟨E, ck, h1, h2, h3⟩ := ho'
              refine hex _ ?_
              have hes : E.size = es.length := by
                have : ∀ {l : List (AV × AV)} {m : List MapEntry}, RE σ D l m → m.length = l.length := by
                  intro l m h
                  induction h with
                  | nil => rfl
                  | cons _ _ _ _ _ _ _ _ ih => simp [ih]
                have := this h2
                simpa using this
              simp only [Builtin.len_, ha, hl, Sem.run_bind, run_und hu, Result.andThen_ok, hv, vget h1, Sem.run_pure, hes]
            · simp at hn
          · simp at hn
        · simp at hop
      | _ => simp [runOp, rNo] at hop

theorem mnI_ok (x y : Int) : mnI false x y = (if y < x then y else x) ∧ mnI true x y = (if y > x then y else x) := by
  have h1 : ilt y x = decide (y < x) := by rw [Bool.eq_iff_iff]; simp [ilt_iff]
  have h2 : ilt x y = decide (x < y) := by rw [Bool.eq_iff_iff]; simp [ilt_iff]
  unfold mnI
  constructor
  · simp only [h1]; by_cases h : y < x <;> simp [h]
  · simp only [h2]; by_cases h : x < y <;> simp [h]

theorem mnV_ok (mx : Bool) : ∀ (l : List AV) (x v : AV) (vx : Value) (vs : List Value), mnV mx x l = some v → R σ D x vx → Rs σ D l vs →
    ∃ y, (∀ w, (if mx then vs.foldlM Builtin.max2 vx else vs.foldlM Builtin.min2 vx).run P w = .ok y w) ∧ R σ D v y
  | [], x, v, vx, vs, h, hx, hl => by
    cases hl
    have : x = v := by cases x <;> simpa [mnV] using h
    subst this
    exact ⟨vx, fun w => by cases mx <;> rfl, hx⟩
  | b :: l, x, v, vx, vs, h, hx, hl => by
    cases hl with
    | cons _ vb _ vl hb hvl =>
      unfold mnV at h
      split at h
      · rename_i heq; simp at heq
      · rename_i k p k' q l' heq
        simp only [List.cons.injEq] at heq
        obtain ⟨rfl, rfl⟩ := heq
        rw [int_of hx, int_of hb]
        obtain ⟨y, hy, hr⟩ := mnV_ok mx l _ v (.int k (mnI mx p q)) vl h (.int _ _) hvl
        refine ⟨y, fun w => ?_, hr⟩
        have := hy w
        have h' := mnI_ok p q
        cases mx with
        | true => simp only [if_true] at this ⊢; rw [h'.2] at this; rw [List.foldlM_cons]; exact this
        | false => simp only [Bool.false_eq_true, if_false] at this ⊢; rw [h'.1] at this; rw [List.foldlM_cons]; exact this
      · simp at h

theorem op_mnx {mx : Bool} {c : Call} (ho : o.op = .call c) (hb : c.callee = .builtin (if mx then .max else .min))
    (hop : runOp (.mnx mx (c.args.toList.map cOpd)) tm s = .val v s') (hw : RW P σ D s w) (ht : Rt σ D tm a.tmps) :
    Res P σ D s w v s' ((execOp a.eval o).run P w) := by
  simp only [runOp, rMnx] at hop
  have hargs : (c.args.map a.eval).toList = c.args.toList.map a.eval := by simp
  have he := evs_ok ht c.args.toList
  split at hop
  · rename_i x l hx
    rw [hx] at he
    obtain ⟨rfl, hv⟩ := valO_syn hop
    generalize hl : c.args.toList.map a.eval = L at he
    cases he with
    | cons _ y _ m h1 h2 =>
      obtain ⟨z, hz, hr⟩ := mnV_ok (P := P) mx l x v y m hv h1 h2
      rw [hl] at hargs
      cases mx with
      | true =>
        refine Res.of (bi_val ho hb (fun _ => rfl) (f := Builtin.max_ c.argTypes o.type (c.args.map a.eval)) (y := z) (w' := w) ?_) hw hr
        simp only [Builtin.max_, hargs]; exact hz w
      | false =>
        refine Res.of (bi_val ho hb (fun _ => rfl) (f := Builtin.min_ c.argTypes o.type (c.args.map a.eval)) (y := z) (w' := w) ?_) hw hr
        simp only [Builtin.min_, hargs]; exact hz w
  · simp at hop
end
end Go.VM

