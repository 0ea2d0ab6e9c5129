/-
  WHAT THE EVALUATOR ANSWERS FOR AN OPERATION THAT CHANGES NO MEMORY IS WHAT THE MODEL YIELDS (2): operation by operation.
-/
import Derived.Test.YtndfcbcmeeemfaaA2
namespace Go.Proofs.Ytndfcbcmeeemfaa.Abs
open Go

section
variable {P : Program} {T : Lays} {F : Nat → Prop} {tab : Tab} {w : World} {μ : Nat → Option Nat} {H : Nat → Option ABlk} {nx : Nat} {E : Nat → SV} {a : Act}

/-- An operation yields a value, of which the abstract one tells; the world stays. -/
def Yield (P : Program) (w : World) (O : Nat → Prop) (μ : Nat → Option Nat) (a : Act) (o : Oper) (x : SV) : Prop :=
  ∃ v, (execOp a.eval o).run P w = .ok (.value v) w ∧ SRel w O μ x v

theorem yield_move {O : Nat → Prop} {o : Oper} {x : Operand} (hE : ERel w O μ E a) (ho : o.op = .move x ∨ o.op = .assign x) (hn : need E x) : Yield P w O μ a o (rd E x) := by
  refine ⟨a.eval x, ?_, rd_sound hE x hn⟩
  rcases ho with ho | ho <;> simp [execOp, ho]

theorem yield_pick {O : Nat → Prop} {o : Oper} {c x y : Operand} {b bx y_ : Bool} (hE : ERel w O μ E a) (ho : o.op = .pick c x y)
    (hc : rd E c = .cv (.one (.imm (.val (.bool b))))) (hx : rd E x = .cv (.one (.imm (.val (.bool bx))))) (hy : rd E y = .cv (.one (.imm (.val (.bool y_)))))
    (hn : need E c) (h1 : b = true → need E x) (h2 : b = false → need E y) : Yield P w O μ a o (.cv (ibool (bif b then bx else y_))) := by
  have e0 := rd_val hE hc hn
  refine ⟨.bool (bif b then bx else y_), ?_, ⟨rfl, rfl⟩⟩
  cases b
  · have e2 := rd_val hE hy (h2 rfl)
    simp [execOp, ho, e0, e2, asBool]
  · have e1 := rd_val hE hx (h1 rfl)
    simp [execOp, ho, e0, e1, asBool]

theorem yield_load {o : Oper} {t : TypeId} {x : Operand} {L : Lay} {p : AV} {l : List AV} {q : Prop} {c : CV} (hT : LayOk P T) (hH : HRel F w μ H nx) (hE : ERel w (Own F H μ) μ E a) (ho : o.op = .load t x)
    (hL : T t = some L) (hx : rd E x = .cv (.one p)) (hl : loadAt H p L.size = some (l, q)) (hm : mk (isAgg L.kind) l = some c) (hn : need E x) (hq : q) : Yield P w (Own F H μ) μ a o (.cv c) := by
  obtain ⟨b, off, hv, cs, hlen, hrel, hcell⟩ := loadAt_sound hH (rd_one hE hx hn) hl hq
  obtain ⟨v, hcv, hk⟩ := mk_sound hm hrel
  refine ⟨v, ?_, hcv⟩
  have hrun : (loadCells ⟨b, off, none⟩ L.size).run P w = .ok cs.toArray w := by
    rw [← hlen]
    exact run_loadCells_list w ⟨b, off, none⟩ cs fun j u hu => by rw [Addr.add_lit]; exact hcell j u hu
  have hag := run_isAgg (hT t L hL) w
  have hsz := run_sizeOf (hT t L hL) w
  rcases hk with ⟨hb, rfl⟩ | ⟨hb, hcs⟩
  · rw [hb] at hag
    simp [execOp, ho, hv, Instr.loadAt, Instr.sureAddr, loadVar, hag, hsz, hrun]
  · rw [hb] at hag
    subst hcs
    have h0 : w.cell? ⟨b, off, none⟩ = some v := by simpa using hcell 0 v rfl
    simp [execOp, ho, hv, Instr.loadAt, Instr.sureAddr, loadVar, hag, h0]

theorem yield_fieldAddr {O : Nat → Prop} {o : Oper} {t ft : TypeId} {x : Operand} {f off : Nat} {fs : List (Nat × TypeId)} {s b : Nat} {z : List Value} {L : Lay} {b' o' : Nat} {r : AV} (hT : LayOk P T)
    (ho : o.op = .fieldAddr t x f) (hL : T t = some ⟨.st fs, s, b, z⟩) (hf : fs[f]? = some (off, ft)) (hF : T ft = some L) (hne : L.size ≠ 0) (hv : a.eval x = .pointer (some ⟨b', o', none⟩))
    (hr : ARel w O μ r (.pointer (some ⟨b', o' + off, none⟩))) : Yield P w O μ a o (.cv (.one r)) := by
  refine ⟨.pointer (some ⟨b', o' + off, none⟩), ?_, hr⟩
  obtain ⟨fields, hu, hfs⟩ := under_st (hT t _ hL)
  subst hfs
  rw [List.getElem?_map, Option.map_eq_some_iff] at hf
  obtain ⟨fd, hfd, he⟩ := hf
  simp only [Prod.mk.injEq] at he
  obtain ⟨rfl, rfl⟩ := he
  have hfd : fields[f]? = some fd := by simpa using hfd
  have hsz := run_sizeOf (hT _ L hF) w
  simp [execOp, ho, hv, Instr.fieldAt, run_underlying hu, hfd, Instr.sureAddr, fieldPlace, hsz, hne, Addr.add_lit]

theorem part_run {O : Nat → Prop} {t : TypeId} {L : Lay} {l : List AV} {cs : List Value} {off : Nat} {c : CV} (hT : LayOk1 P t L) (hl : LRel w O μ l cs) (hlen : lenIs ((l.drop off).take L.size) L.size = true)
    (hm : mk (isAgg L.kind) ((l.drop off).take L.size) = some c) : ∃ v, (part t cs.toArray off).run P w = .ok v w ∧ CRel w O μ c v := by
  obtain ⟨v, hcv, hk⟩ := mk_sound hm ((hl.drop off).take L.size)
  refine ⟨v, ?_, hcv⟩
  have hag := run_isAgg hT w
  have hsz := run_sizeOf hT w
  have hlen := lenIs_eq _ _ hlen
  rcases hk with ⟨hb, rfl⟩ | ⟨hb, hcs⟩
  · rw [hb] at hag
    simp [part, hag, hsz]
  · rw [hb] at hag
    have h0 : cs[off]? = some v := by
      have : ((cs.drop off).take L.size)[0]? = some v := by rw [hcs]; rfl
      rw [List.getElem?_take] at this
      split at this
      · rw [List.getElem?_drop] at this; simpa using this
      · cases this
    have h0' : cs.toArray[off]? = some v := by simpa using h0
    simp only [part, Sem.run_bind, hag, Result.andThen_ok, Bool.false_eq_true, if_false, h0']
    rfl

theorem yield_field {O : Nat → Prop} {o : Oper} {t ft : TypeId} {x : Operand} {f off : Nat} {fs : List (Nat × TypeId)} {s b : Nat} {z : List Value} {L : Lay} {l : List AV} {c : CV} (hT : LayOk P T) (hE : ERel w O μ E a)
    (ho : o.op = .field t x f) (hL : T t = some ⟨.st fs, s, b, z⟩) (hf : fs[f]? = some (off, ft)) (hF : T ft = some L) (hx : rd E x = .cv (.agg l)) (hn : need E x)
    (hlen : lenIs ((l.drop off).take L.size) L.size = true) (hm : mk (isAgg L.kind) ((l.drop off).take L.size) = some c) : Yield P w O μ a o (.cv c) := by
  obtain ⟨cs, hv, hl⟩ := rd_cv hE hx hn
  obtain ⟨v, hrun, hr⟩ := part_run (hT _ L hF) hl hlen hm
  refine ⟨v, ?_, hr⟩
  obtain ⟨fields, hu, hfs⟩ := under_st (hT t _ hL)
  subst hfs
  rw [List.getElem?_map, Option.map_eq_some_iff] at hf
  obtain ⟨fd, hfd, he⟩ := hf
  simp only [Prod.mk.injEq] at he
  obtain ⟨rfl, rfl⟩ := he
  have hfd : fields[f]? = some fd := by simpa using hfd
  simp [execOp, ho, hv, Instr.field, run_underlying hu, hfd, asAgg, hrun]

theorem yield_index_arr {O : Nat → Prop} {o : Oper} {t e : TypeId} {x ix : Operand} {n s b : Nat} {z : List Value} {L : Lay} {l : List AV} {c : CV} {k : IntKind} {i : Int} (hT : LayOk P T) (hE : ERel w O μ E a)
    (ho : o.op = .index t x ix) (hL : T t = some ⟨.arr n e, s, b, z⟩) (hF : T e = some L) (hx : rd E x = .cv (.agg l)) (hn : need E x) (hi : rd E ix = .cv (.one (.imm (.val (.int k i))))) (hni : need E ix) (h0 : 0 ≤ i) (h1 : i < n)
    (hlen : lenIs ((l.drop (i.toNat * L.size)).take L.size) L.size = true) (hm : mk (isAgg L.kind) ((l.drop (i.toNat * L.size)).take L.size) = some c) : Yield P w O μ a o (.cv c) := by
  obtain ⟨cs, hv, hl⟩ := rd_cv hE hx hn
  have hiv := rd_val hE hi hni
  obtain ⟨v, hrun, hr⟩ := part_run (hT _ L hF) hl hlen hm
  refine ⟨v, ?_, hr⟩
  have hu := under_arr (hT t _ hL)
  have hsz := run_sizeOf (hT e L hF) w
  simp [execOp, ho, hv, hiv, Instr.index, asIntOf, run_underlying hu, h0, h1, hsz, hrun]

theorem yield_indexAddr_sl {O : Nat → Prop} {o : Oper} {t e : TypeId} {x ix : Operand} {s b : Nat} {z : List Value} {L : Lay} {k : IntKind} {i : Int} {b' o' n cap : Nat} {r : AV} (hT : LayOk P T) (hE : ERel w O μ E a)
    (ho : o.op = .indexAddr t x ix) (hL : T t = some ⟨.sl e, s, b, z⟩) (hF : T e = some L) (hv : a.eval x = .slice (some ⟨b', o', none⟩) n cap) (hi : rd E ix = .cv (.one (.imm (.val (.int k i))))) (hni : need E ix) (h0 : 0 ≤ i) (h1 : i < n)
    (hr : ARel w O μ r (.pointer (some ⟨b', o' + i.toNat * L.size, none⟩))) : Yield P w O μ a o (.cv (.one r)) := by
  have hiv := rd_val hE hi hni
  refine ⟨_, ?_, hr⟩
  have hu := under_sl (hT t _ hL)
  have hsz := run_sizeOf (hT e L hF) w
  simp [execOp, ho, hv, hiv, Instr.indexAt, asIntOf, run_underlying hu, h0, h1, hsz, Addr.add_lit]

theorem yield_indexAddr_arr {O : Nat → Prop} {o : Oper} {t e : TypeId} {x ix : Operand} {n s b : Nat} {z : List Value} {L : Lay} {k : IntKind} {i : Int} {b' o' : Nat} {r : AV} (hT : LayOk P T) (hE : ERel w O μ E a)
    (ho : o.op = .indexAddr t x ix) (hL : T t = some ⟨.arr n e, s, b, z⟩) (hF : T e = some L) (hv : a.eval x = .pointer (some ⟨b', o', none⟩)) (hi : rd E ix = .cv (.one (.imm (.val (.int k i))))) (hni : need E ix) (h0 : 0 ≤ i) (h1 : i < n)
    (hr : ARel w O μ r (.pointer (some ⟨b', o' + i.toNat * L.size, none⟩))) : Yield P w O μ a o (.cv (.one r)) := by
  have hiv := rd_val hE hi hni
  refine ⟨_, ?_, hr⟩
  have hu := under_arr (hT t _ hL)
  have hsz := run_sizeOf (hT e L hF) w
  simp [execOp, ho, hv, hiv, Instr.indexAt, asIntOf, run_underlying hu, Instr.sureAddr, h0, h1, hsz, Addr.add_lit]

theorem kindEq_eq {k k' : IntKind} (h : kindEq k k' = true) : k = k' := by cases k <;> cases k' <;> first | rfl | (simp [kindEq] at h)

theorem arith_run {op : BinOp} {k : IntKind} {x y : Int} {v : Value} {p : Prop} (h : arith op k x y = some (v, p)) (hp : p) (t : TypeId) (u z : Operand) :
    ((eqGuard op t u z (.int k x) (.int k y)).run P w = .ok () w) ∧ (binOp op t (.int k x) (.int k y)).run P w = .ok v w ∧ One v := by
  refine ⟨by simp [eqGuard_at_int], ?_, ?_⟩
  · cases op <;> simp [arith] at h <;> obtain ⟨rfl, hq⟩ := h <;> simp [binOp_add, binOp_sub, binOp_mul, binOp_quo, binOp_rem, binOp_eql, binOp_neq, binOp_lss, binOp_leq, binOp_gtr, binOp_geq, Op.intArith, Op.intDiv]
    all_goals (have hy : ¬ y = 0 := hq.2 hp; simp [hy])
  · cases op <;> simp [arith] at h <;> obtain ⟨rfl, _⟩ := h <;> rfl

theorem yield_binOp {O : Nat → Prop} {o : Oper} {op : BinOp} {t t' : TypeId} {x y : Operand} {v : Value} {p : Prop} (hT : LayOk P T) (hE : ERel w O μ E a) (ho : o.op = .binOp op t x y t')
    (h : binV (isBool (T t)) op (rd E x) (rd E y) = some (v, p)) (hx : need E x) (hy : need E y) (hp : p) : Yield P w O μ a o (.cv (ione v)) := by
  unfold binV at h
  split at h
  · rename_i k m k' n h1 h2
    cases hk : kindEq k k' with
    | false => rw [hk] at h; simp at h
    | true =>
      rw [hk] at h
      simp only [cond_true] at h
      have hkk := kindEq_eq hk
      subst hkk
      have e1 := rd_val hE h1 hx
      have e2 := rd_val hE h2 hy
      obtain ⟨hg, hr, ho1⟩ := arith_run (P := P) (w := w) h hp t x y
      refine ⟨v, ?_, ⟨rfl, ho1⟩⟩
      simp only [execOp, ho, e1, e2, Sem.run_bind, hg, hr, Result.andThen_ok, Sem.run_pure]
  · rename_i m n h1 h2
    have e1 := rd_val hE h1 hx
    have e2 := rd_val hE h2 hy
    have hB : isBool (T t) = true := by
      cases hb : isBool (T t) with
      | true => rfl
      | false => rw [hb] at h; cases op <;> simp at h
    have hu : P.underlying t = some .bool := by
      unfold isBool at hB
      split at hB
      · rename_i heq
        obtain ⟨i, d, _, _, _, _, hd, hk⟩ := lay_info (hT t _ heq)
        cases d <;> simp [kindOf] at hk
        exact hd
      · cases hB
    have hb : (Op.equal t (.bool m) (.bool n)).run P w = .ok (m == n) w := by
      show (Op.equalIn (9999 + 1) t (.bool m) (.bool n)).run P w = _
      rw [Op.equalIn]
      simp [run_underlying hu]
    rw [hB] at h
    split at h <;> simp at h
    · obtain ⟨rfl, _⟩ := h
      refine ⟨.bool (m == n), ?_, ⟨rfl, rfl⟩⟩
      simp [execOp, ho, e1, e2, eqGuard_at_bool, binOp, hb]
    · obtain ⟨rfl, _⟩ := h
      refine ⟨.bool (!(m == n)), ?_, ⟨rfl, rfl⟩⟩
      simp [execOp, ho, e1, e2, eqGuard_at_bool, binOp, hb]
  · cases h

theorem yield_convert {O : Nat → Prop} {o : Oper} {s d : TypeId} {x : Operand} {k k' : IntKind} {n : Int} {L : Lay} {sz by_ : Nat} {z : List Value} (hT : LayOk P T) (hE : ERel w O μ E a) (ho : o.op = .convert s d x)
    (hs : T s = some L) (hd : T d = some ⟨.int k, sz, by_, z⟩) (hx : rd E x = .cv (.one (.imm (.val (.int k' n))))) (hn : need E x) : Yield P w O μ a o (.cv (ione (.int k (k.wrap n)))) := by
  have e := rd_val hE hx hn
  refine ⟨_, ?_, ⟨rfl, rfl⟩⟩
  obtain ⟨_, ds, _, _, _, _, hds, _⟩ := lay_info (hT s L hs)
  have hdd := under_int (hT d _ hd)
  simp [execOp, ho, e, Go.convert, run_underlying hds, run_underlying hdd, Conv.intToInt]

theorem yield_extract {O : Nat → Prop} {o : Oper} {x : Operand} {i : Nat} {l : List CV} {c : CV} (hE : ERel w O μ E a) (ho : o.op = .extract x i) (hx : rd E x = .tup l) (hc : l[i]? = some c) (hn : need E x) : Yield P w O μ a o (.cv c) := by
  obtain ⟨vs, hv, hlen, hr⟩ := rd_tup hE hx hn
  have hi : i < vs.length := by
    rw [hlen]
    rcases Nat.lt_or_ge i l.length with h | h
    · exact h
    · rw [List.getElem?_eq_none h] at hc; cases hc
  refine ⟨vs[i], ?_, hr i c _ hc (List.getElem?_eq_getElem hi)⟩
  simp [execOp, ho, hv, Instr.extract, hi]
end
end Go.Proofs.Ytndfcbcmeeemfaa.Abs
