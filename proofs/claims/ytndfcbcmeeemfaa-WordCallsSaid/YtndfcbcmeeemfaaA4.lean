/-
  WHAT THE EVALUATOR ANSWERS FOR AN OPERATION THAT CHANGES NO MEMORY IS WHAT THE MODEL YIELDS (3): aggregates, functions, slices; all of them in one theorem.
-/
import Derived.Test.YtndfcbcmeeemfaaA3
namespace Go.Proofs.Ytndfcbcmeeemfaa.Abs
open Go

section
variable {P : Program} {T : Lays} {F : Nat → Prop} {w : World} {μ : Nat → Option Nat} {H : Nat → Option ABlk} {nx : Nat} {E : Nat → SV} {a : Act}

theorem yield_unOp {O : Nat → Prop} {o : Oper} {op : UnOp} {t : TypeId} {x : Operand} {u v : Value} (hE : ERel w O μ E a) (ho : o.op = .unOp op t x)
    (hx : rd E x = .cv (.one (.imm (.val u)))) (hn : need E x) (h : (Op.unary op u).run P w = .ok v w) (h1 : One v) : Yield P w O μ a o (.cv (ione v)) := by
  have e := rd_val hE hx hn
  exact ⟨v, by simp [execOp, ho, e, h], ⟨rfl, h1⟩⟩

theorem yield_nilCheck {O : Nat → Prop} {o : Oper} {x : Operand} {p : AV} (hE : ERel w O μ E a) (ho : o.op = .nilCheck x) (hx : rd E x = .cv (.one p)) (hn : need E x)
    (hp : (∃ b e i j, p = .own b e i j) ∨ (∃ n c, p = .vptr n c) ∨ ∃ f nf fi nc ca, p = .fn (.func f) nf fi nc ca) : Yield P w O μ a o (.cv (.one p)) := by
  have h := rd_one hE hx hn
  refine ⟨a.eval x, ?_, h⟩
  rcases hp with ⟨b, e, i, j, rfl⟩ | ⟨n, c, rfl⟩ | ⟨f, nf, fi, nc, ca, rfl⟩
  · obtain ⟨m, _, hv⟩ := h; simp [execOp, ho, hv]
  · obtain ⟨b, o', hv, _⟩ := h; simp [execOp, ho, hv]
  · obtain ⟨fs, cs, hv, _⟩ := h; simp [execOp, ho, hv]

theorem setAt_length (cells : List AV) (off : Nat) (l : List AV) (h : off + l.length ≤ cells.length) : (setAt cells off l).length = cells.length := by
  simp [setAt]; omega

theorem foldl_set (vs : List Value) : ∀ (k off : Nat) (cs : Array Value), off + k + vs.length ≤ cs.size →
    ((vs.zipIdx k).foldl (fun cs (c, j) => cs.setIfInBounds (off + j) c) cs).toList = cs.toList.take (off + k) ++ vs ++ cs.toList.drop (off + k + vs.length) := by
  induction vs with
  | nil => intro k off cs h; simp
  | cons v vs ih =>
    intro k off cs h
    simp only [List.length_cons] at h
    rw [List.zipIdx_cons, List.foldl_cons, ih (k + 1) off _ (by simp; omega)]
    simp only [Array.toList_setIfInBounds, List.length_cons]
    have h0 : off + k < cs.toList.length := by simp; omega
    have t1 : (cs.toList.set (off + k) v).take (off + (k + 1)) = cs.toList.take (off + k) ++ [v] := by
      rw [show off + (k + 1) = (off + k) + 1 from by omega, List.take_succ_eq_append_getElem (by simpa using h0)]
      simp [List.take_set_of_le]
    have t2 : (cs.toList.set (off + k) v).drop (off + (k + 1) + vs.length) = cs.toList.drop (off + k + (vs.length + 1)) := by
      rw [List.drop_set, if_pos (by omega)]
      congr 1
      omega
    rw [t1, t2]
    simp

theorem fill_one {place : Nat → Option (Nat × Nat)} {cells : Array Value} {i off size : Nat} {v : Value} {rest : List (Nat × Value)} (hp : place i = some (off, size)) (hs : v.cells.size = size) (hb : off + size ≤ cells.size) :
    Instr.fill place cells ((i, v) :: rest) = Instr.fill place (cells.toList.take off ++ v.cells.toList ++ cells.toList.drop (off + size)).toArray rest := by
  subst hs
  simp only [Instr.fill, hp]
  rw [if_neg (by simp; omega)]
  congr 1
  apply Array.toList_inj.1
  rw [← Array.foldl_toList]
  have := foldl_set v.cells.toList 0 off cells (by simpa using hb)
  simpa using this

theorem setAt_rel {O : Nat → Prop} {cells l : List AV} {cs vs : List Value} {off : Nat} (h : LRel w O μ cells cs) (hl : LRel w O μ l vs) : LRel w O μ (setAt cells off l) (cs.take off ++ vs ++ cs.drop (off + vs.length)) := by
  have := ((h.take off).append hl).append (h.drop (off + l.length))
  rw [hl.1]
  exact this

theorem cellsOf_sound {O : Nat → Prop} {x : Operand} {l : List AV} (hE : ERel w O μ E a) (h : cellsOf E x = some l) (hn : need E x) : LRel w O μ l (a.eval x).cells.toList := by
  unfold cellsOf at h
  split at h
  · rename_i c hc
    cases h
    exact (rd_cv hE hc hn).cells
  · cases h

theorem fillS_sound {O : Nat → Prop} (_hT : LayOk P T) (hE : ERel w O μ E a) {fs : List (Nat × TypeId)} {place : Nat → Option (Nat × Nat)}
    (hplace : ∀ i off ft L, fs[i]? = some (off, ft) → T ft = some L → place i = some (off, L.size)) : ∀ (parts : List (Nat × Operand)) (cells : List AV) (cs : List Value) (l : List AV) (p : Prop),
    LRel w O μ cells cs → fillS T E fs cells parts = some (l, p) → p → ∃ r : List Value, Instr.fill place cs.toArray (parts.map fun (i, x) => (i, a.eval x)) = some r.toArray ∧ LRel w O μ l r := by
  intro parts
  induction parts with
  | nil => intro cells cs l p h hf hp; simp [fillS] at hf; obtain ⟨rfl, _⟩ := hf; exact ⟨cs, rfl, h⟩
  | cons part rest ih =>
    obtain ⟨i, x⟩ := part
    intro cells cs l p h hf hp
    simp only [fillS] at hf
    split at hf
    · rename_i off ft l' hfi hcx
      split at hf
      · rename_i L hL
        cases hc : (lenIs l' L.size && Nat.ble (off + L.size) cells.length) with
        | false => rw [hc] at hf; simp at hf
        | true =>
          rw [hc] at hf
          simp only [cond_true] at hf
          split at hf
          · rename_i c q hrest
            simp only [Option.some.injEq, Prod.mk.injEq] at hf
            obtain ⟨rfl, rfl⟩ := hf
            simp only [Bool.and_eq_true] at hc
            have hlen := lenIs_eq _ _ hc.1
            have hble := Nat.le_of_ble_eq_true hc.2
            have hrel := cellsOf_sound hE hcx hp.1
            have hvs : (a.eval x).cells.size = L.size := by rw [← Array.length_toList, hrel.1, hlen]
            have hr2 := setAt_rel (off := off) h hrel
            obtain ⟨r, hr, hlr⟩ := ih (setAt cells off l') _ c q hr2 hrest hp.2
            refine ⟨r, ?_, hlr⟩
            rw [← hr, List.map_cons]
            rw [fill_one (hplace i off ft L hfi hL) hvs (by rw [List.size_toArray, h.1]; exact hble)]
            rw [Array.length_toList, hvs]
          · cases hf
      · cases hf
    · cases hf

theorem fillA_sound {O : Nat → Prop} (hE : ERel w O μ E a) {size : Nat} : ∀ (parts : List (Nat × Operand)) (cells : List AV) (cs : List Value) (l : List AV) (p : Prop),
    LRel w O μ cells cs → fillA E size cells parts = some (l, p) → p → ∃ r : List Value, Instr.fill (fun i => some (i * size, size)) cs.toArray (parts.map fun (i, x) => (i, a.eval x)) = some r.toArray ∧ LRel w O μ l r := by
  intro parts
  induction parts with
  | nil => intro cells cs l p h hf hp; simp [fillA] at hf; obtain ⟨rfl, _⟩ := hf; exact ⟨cs, rfl, h⟩
  | cons part rest ih =>
    obtain ⟨i, x⟩ := part
    intro cells cs l p h hf hp
    simp only [fillA] at hf
    split at hf
    · rename_i l' hcx
      cases hc : (lenIs l' size && Nat.ble (i * size + size) cells.length) with
      | false => rw [hc] at hf; simp at hf
      | true =>
        rw [hc] at hf
        simp only [cond_true] at hf
        split at hf
        · rename_i c q hrest
          simp only [Option.some.injEq, Prod.mk.injEq] at hf
          obtain ⟨rfl, rfl⟩ := hf
          simp only [Bool.and_eq_true] at hc
          have hlen := lenIs_eq _ _ hc.1
          have hble := Nat.le_of_ble_eq_true hc.2
          have hrel := cellsOf_sound hE hcx hp.1
          have hvs : (a.eval x).cells.size = size := by rw [← Array.length_toList, hrel.1, hlen]
          have hr2 := setAt_rel (off := i * size) h hrel
          obtain ⟨r, hr, hlr⟩ := ih (setAt cells (i * size) l') _ c q hr2 hrest hp.2
          refine ⟨r, ?_, hlr⟩
          rw [← hr, List.map_cons]
          rw [fill_one (size := size) (off := i * size) rfl hvs (by rw [List.size_toArray, h.1]; exact hble)]
          rw [Array.length_toList, hvs]
        · cases hf
    · cases hf

theorem zeros_rel {O : Nat → Prop} {t : TypeId} {L : Lay} (_hT : LayOk1 P t L) (h1 : L.zero.all (·.oneCell') = true) : LRel w O μ (zeros L) L.zero := by
  rw [List.all_eq_true] at h1
  exact LRel.vals h1

theorem run_zeroValue {t : TypeId} {L : Lay} (hT : LayOk1 P t L) (w : World) : ∃ z, (zeroValue t).run P w = .ok z w ∧ z.cells = L.zero.toArray := by
  obtain ⟨i, d, hi, _, _, ⟨z, hz, hc⟩, _, _⟩ := lay_info hT
  refine ⟨z, by simp [zeroValue, typeInfo, hi, hz], ?_⟩
  apply Array.toList_inj.1
  simp [hc]

theorem mapM_places {fields : List Field} {places : List (Nat × Nat)} (hlen : places.length = fields.length) (h : ∀ (i : Nat) f, fields[i]? = some f → ∃ s, (sizeOf f.type).run P w = .ok s w ∧ places[i]? = some (f.offset, s)) :
    (fields.mapM fun f => (do pure (f.offset, ← sizeOf f.type) : Sem (Nat × Nat))).run P w = .ok places w := by
  induction fields generalizing places with
  | nil => cases places with
    | nil => rfl
    | cons p l => simp at hlen
  | cons f fs ih =>
    cases places with
    | nil => simp at hlen
    | cons p l =>
      obtain ⟨s, hs, hp⟩ := h 0 f rfl
      simp only [List.getElem?_cons_zero, Option.some.injEq] at hp
      subst hp
      have hr := ih (places := l) (by simpa using hlen) fun i g hg => h (i + 1) g hg
      rw [List.mapM_cons]
      simp only [Sem.run_bind, hs, Result.andThen_ok, Sem.run_pure, hr]

/-- The table's zero values are values of one cell each. -/
def ZeroOk (T : Lays) : Prop := ∀ t x, T t = some x → x.zero.all (·.oneCell') = true

theorem yield_build_st {O : Nat → Prop} {o : Oper} {t : TypeId} {parts : Array (Nat × Operand)} {fs : List (Nat × TypeId)} {s b : Nat} {z : List Value} {l : List AV} {p : Prop} (hT : LayOk P T) (hZ : ZeroOk T) (hE : ERel w O μ E a)
    (ho : o.op = .build t parts) (hL : T t = some ⟨.st fs, s, b, z⟩) (hall : ∀ (i off : Nat) ft, fs[i]? = some (off, ft) → (T ft).isSome = true)
    (hf : fillS T E fs (zeros ⟨.st fs, s, b, z⟩) parts.toList = some (l, p)) (hp : p) : Yield P w O μ a o (.cv (.agg l)) := by
  obtain ⟨fields, hu, hfs⟩ := under_st (hT t _ hL)
  obtain ⟨zv, hzr, hzc⟩ := run_zeroValue (hT t _ hL) w
  subst hfs
  have hsize : ∀ (i : Nat) f, fields.toList[i]? = some f → ∃ L, T f.type = some L ∧ (sizeOf f.type).run P w = .ok L.size w := by
    intro i f hf'
    have := hall i f.offset f.type (by rw [List.getElem?_map, hf']; rfl)
    obtain ⟨L, hL'⟩ := Option.isSome_iff_exists.1 this
    exact ⟨L, hL', run_sizeOf (hT _ L hL') w⟩
  obtain ⟨places, hpl⟩ : ∃ places : List (Nat × Nat), places.length = fields.toList.length ∧ ∀ (i : Nat) f, fields.toList[i]? = some f → ∃ L, T f.type = some L ∧ places[i]? = some (f.offset, L.size) := by
    refine ⟨fields.toList.map fun f => (f.offset, ((T f.type).map (·.size)).getD 0), by simp, fun i f hf' => ?_⟩
    obtain ⟨L, hL', _⟩ := hsize i f hf'
    exact ⟨L, hL', by rw [List.getElem?_map, hf']; simp [hL']⟩
  have hplaces := mapM_places (P := P) (w := w) hpl.1 fun i f hf' => by
    obtain ⟨L, hL', hr⟩ := hsize i f hf'
    obtain ⟨L2, hL2, h2⟩ := hpl.2 i f hf'
    rw [hL'] at hL2; cases hL2
    exact ⟨L.size, hr, h2⟩
  obtain ⟨r, hr, hl⟩ := fillS_sound (place := fun i => places.toArray[i]?) hT hE (fun i off ft L hfi hTL => by
    rw [List.getElem?_map, Option.map_eq_some_iff] at hfi
    obtain ⟨f, hf', he⟩ := hfi
    simp only [Prod.mk.injEq] at he
    obtain ⟨rfl, rfl⟩ := he
    obtain ⟨L2, hL2, h2⟩ := hpl.2 i f hf'
    rw [hTL] at hL2; cases hL2
    simpa using h2) parts.toList _ _ l p (zeros_rel (hT t _ hL) (hZ t _ hL)) hf hp
  refine ⟨.agg r.toArray, ?_, ⟨r, rfl, hl⟩⟩
  have hmap : (fields.mapM fun f => (do pure (f.offset, ← sizeOf f.type) : Sem (Nat × Nat))).run P w = .ok places.toArray w := by
    rw [Array.mapM_eq_mapM_toList]
    simp only [Sem.run_map, hplaces, Result.andThen_ok]
  simp only [execOp, ho, Instr.build, Sem.run_bind, hzr, Result.andThen_ok, run_underlying hu, hmap, hzc, Sem.run_pure]
  have hr' : Instr.fill (fun i => places.toArray[i]?) z.toArray (parts.map fun (i, x) => (i, a.eval x)).toList = some r.toArray := by
    rw [Array.toList_map]; exact hr
  simp only [hr', Sem.run_pure, Result.andThen_ok]

theorem yield_build_arr {O : Nat → Prop} {o : Oper} {t e : TypeId} {n : Nat} {parts : Array (Nat × Operand)} {s b : Nat} {z : List Value} {L : Lay} {l : List AV} {p : Prop} (hT : LayOk P T) (hZ : ZeroOk T) (hE : ERel w O μ E a)
    (ho : o.op = .build t parts) (hL : T t = some ⟨.arr n e, s, b, z⟩) (hF : T e = some L)
    (hf : fillA E L.size (zeros ⟨.arr n e, s, b, z⟩) parts.toList = some (l, p)) (hp : p) : Yield P w O μ a o (.cv (.agg l)) := by
  have hu := under_arr (hT t _ hL)
  obtain ⟨zv, hzr, hzc⟩ := run_zeroValue (hT t _ hL) w
  obtain ⟨r, hr, hl⟩ := fillA_sound hE parts.toList _ _ l p (zeros_rel (hT t _ hL) (hZ t _ hL)) hf hp
  refine ⟨.agg r.toArray, ?_, ⟨r, rfl, hl⟩⟩
  have hsz := run_sizeOf (hT e L hF) w
  simp only [execOp, ho, Instr.build, Sem.run_bind, hzr, Result.andThen_ok, run_underlying hu, hsz, hzc, Sem.run_pure]
  have hr' : Instr.fill (fun i => some (i * L.size, L.size)) z.toArray (parts.map fun (i, x) => (i, a.eval x)).toList = some r.toArray := by
    rw [Array.toList_map]; exact hr
  simp only [hr', Sem.run_pure, Result.andThen_ok]

theorem listAV_sound {O : Nat → Prop} (hE : ERel w O μ E a) : ∀ (xs : List Operand) (l : List AV) (p : Prop), listAV E xs = some (l, p) → p → LRel w O μ l (xs.map a.eval) := by
  intro xs
  induction xs with
  | nil => intro l p h hp; simp [listAV] at h; obtain ⟨rfl, _⟩ := h; exact LRel.nil
  | cons x xs ih =>
    intro l p h hp
    simp only [listAV] at h
    split at h
    · rename_i y ys q hx hys
      simp only [Option.some.injEq, Prod.mk.injEq] at h
      obtain ⟨rfl, rfl⟩ := h
      exact LRel.cons (rd_one hE hx hp.1) (ih ys q hys hp.2)
    · cases h

theorem listCV_sound {O : Nat → Prop} (hE : ERel w O μ E a) : ∀ (xs : List Operand) (l : List CV) (p : Prop), listCV E xs = some (l, p) → p → TRel w O μ l (xs.map a.eval) := by
  intro xs
  induction xs with
  | nil => intro l p h hp; simp [listCV] at h; obtain ⟨rfl, _⟩ := h; exact ⟨rfl, fun i x u h => by simp at h⟩
  | cons x xs ih =>
    intro l p h hp
    simp only [listCV] at h
    split at h
    · rename_i y ys q hx hys
      simp only [Option.some.injEq, Prod.mk.injEq] at h
      obtain ⟨rfl, rfl⟩ := h
      have h1 := rd_cv hE hx hp.1
      have h2 := ih ys q hys hp.2
      refine ⟨by simp [h2.1], fun i z u hz hu => ?_⟩
      cases i with
      | zero => simp at hz hu; subst hz; subst hu; exact h1
      | succ i => simp at hz hu; exact h2.2 i z u hz (by simpa using hu)
    · cases h

theorem yield_makeFunc {O : Nat → Prop} {o : Oper} {f : Fn} {first caps : Array Operand} {l m : List AV} {p q : Prop} (hE : ERel w O μ E a) (ho : o.op = .makeFunc f first caps)
    (h1 : listAV E first.toList = some (l, p)) (h2 : listAV E caps.toList = some (m, q)) (hp : p) (hq : q) :
    Yield P w O μ a o (.cv (.one (.fn f l.length (fun i => l.getD i avDef) m.length fun i => m.getD i avDef))) := by
  have r1 := listAV_sound hE _ _ _ h1 hp
  have r2 := listAV_sound hE _ _ _ h2 hq
  refine ⟨.func f (first.map a.eval) (caps.map a.eval), by simp [execOp, ho, Instr.makeFunc], ?_⟩
  refine ⟨first.toList.map a.eval, caps.toList.map a.eval, ?_, r1.1, r2.1, fun i u hu => ?_, fun i u hu => ?_⟩
  · congr 1 <;> (apply Array.toList_inj.1; simp)
  · have hi : i < l.length := by
      rw [← r1.1]
      rcases Nat.lt_or_ge i (first.toList.map a.eval).length with h | h
      · exact h
      · rw [List.getElem?_eq_none h] at hu; cases hu
    have := r1.2 i l[i] u (List.getElem?_eq_getElem hi) hu
    simpa [List.getD_eq_getElem?_getD, List.getElem?_eq_getElem hi] using this
  · have hi : i < m.length := by
      rw [← r2.1]
      rcases Nat.lt_or_ge i (caps.toList.map a.eval).length with h | h
      · exact h
      · rw [List.getElem?_eq_none h] at hu; cases hu
    have := r2.2 i m[i] u (List.getElem?_eq_getElem hi) hu
    simpa [List.getD_eq_getElem?_getD, List.getElem?_eq_getElem hi] using this
end
end Go.Proofs.Ytndfcbcmeeemfaa.Abs
