/-
  MAPS WHOSE KEYS ARE INTEGERS (2): the operations on abstract values.
-/
import Derived.Test.YtndfcbcmeeemfaaK0
namespace Go.Proofs.Ytndfcbcmeeemfaa.Abs
open Go

def aggOf : Value → Bool
  | .agg _ => true
  | _ => false

def isSt : TK → Bool
  | .st _ => true
  | _ => false

theorem names_ok {P : Program} {t : TypeId} (h : ((P.fieldsOf t).toList.all fun f => f.name != "_") = true) : ∀ f ∈ (P.fieldsOf t).toList, f.name ≠ "_" := by
  intro f hf
  have := List.all_eq_true.1 h f hf
  simpa using this

structure MoreOk (P : Program) (T : Lays) : Prop where
  eqs : ∀ t fs s b z, T t = some ⟨.st fs, s, b, z⟩ → EqOk P t
  size : ∀ t x, T t = some x → x.zero.length = x.size
  zform : ∀ t L, T t = some L → ((P.info? t).bind fun i => i.zero.map aggOf) = some (isAgg L.kind)

section
variable {P : Program} {T : Lays} {F : Nat → Prop} {w : World} {O : Nat → Prop} {μ : Nat → Option Nat} {H : Nat → Option ABlk} {nx : Nat} {E : Nat → SV} {a : Act}

theorem kindsEq_eq : ∀ {l m : List IntKind}, kindsEq l m = true → l = m
  | [], [], _ => rfl
  | [], _ :: _, h => by simp [kindsEq] at h
  | _ :: _, [], h => by simp [kindsEq] at h
  | x :: l, y :: m, h => by
    simp only [kindsEq] at h
    cases hk : kindEq x y with
    | false => rw [hk] at h; simp at h
    | true => rw [hk] at h; rw [kindEq_eq hk, kindsEq_eq h]
theorem bEq_eq {a b : Bool} (h : bEq a b = true) : a = b := by cases a <;> cases b <;> simp [bEq] at h <;> rfl

theorem keyInts_rel : ∀ (l : List AV) (kks : List IntKind) (ks : List Int) (cs : List Value), keyInts l = some (kks, ks) → LRel w O μ l cs → cs = keyCells kks ks ∧ ks.length = kks.length
  | [], kks, ks, cs, h, hl => by
    simp only [keyInts, Option.some.injEq, Prod.mk.injEq] at h
    obtain ⟨rfl, rfl⟩ := h
    have := hl.1
    exact ⟨List.length_eq_zero_iff.1 this, rfl⟩
  | x :: l, kks, ks, cs, h, hl => by
    cases cs with
    | nil => exact absurd hl.1 (by simp)
    | cons u cs =>
      cases x with
      | imm y =>
        cases y with
        | val v =>
          cases v with
          | int q n =>
            simp only [keyInts] at h
            split at h
            · rename_i kks' ks' h'
              simp only [Option.some.injEq, Prod.mk.injEq] at h
              obtain ⟨rfl, rfl⟩ := h
              have hu := (hl.2 0 _ u rfl rfl).1
              obtain ⟨h1, h2⟩ := keyInts_rel l kks' ks' cs h' ⟨by simpa using hl.1, fun i x u hx hu => hl.2 (i + 1) x u hx hu⟩
              refine ⟨?_, by simp [h2]⟩
              rw [hu, h1]
              rfl
            · cases h
          | _ => simp [keyInts] at h
        | _ => simp [keyInts] at h
      | _ => simp [keyInts] at h

theorem keyOf_rel {x : SV} {ka : Bool} {kks : List IntKind} {ks : List Int} {v : Value} (h : keyOf x = some (ka, kks, ks)) (hx : SRel w O μ x v) : v = keyV ka kks ks ∧ ks.length = kks.length := by
  unfold keyOf at h
  split at h
  · simp only [Option.some.injEq, Prod.mk.injEq] at h
    obtain ⟨rfl, rfl, rfl⟩ := h
    exact ⟨hx.1, rfl⟩
  · rename_i l
    split at h
    · rename_i a b hk
      simp only [Option.some.injEq, Prod.mk.injEq] at h
      obtain ⟨rfl, rfl, rfl⟩ := h
      obtain ⟨cs, rfl, hl⟩ := hx
      obtain ⟨rfl, h2⟩ := keyInts_rel l a b cs hk hl
      exact ⟨rfl, h2⟩
    · cases h
  · cases h

theorem selIV_rel {c : Bool} {x : IV} {z u : Value} (hz : One z) (h : (selIV c x z).2) (h1 : c = true → IRel w O x u) (h2 : c = false → u = z) : IRel w O (selIV c x z).1 u := by
  unfold selIV at h ⊢
  split
  · rename_i q n
    cases c with
    | true => have := h1 rfl; rw [h rfl] at this; exact this
    | false => rw [h2 rfl]; exact ⟨rfl, rfl⟩
  · rename_i b
    cases c with
    | true => have := h1 rfl; rw [h rfl] at this; exact this
    | false => rw [h2 rfl]; exact ⟨rfl, rfl⟩
  · cases c with
    | true => exact h1 rfl
    | false => rw [h2 rfl]; exact ivOf_rel hz

theorem selL_rel {c : Bool} {f : Nat → IV} : ∀ (zs : List Value) (j : Nat) (cs : List Value), (∀ z ∈ zs, One z) → (selL c f j zs).2 → cs.length = zs.length → (∀ i u, cs[i]? = some u → (c = true → IRel w O (f (j + i)) u) ∧ (c = false → zs[i]? = some u)) → LRel w O μ (selL c f j zs).1 cs
  | [], _, cs, _, _, hl, _ => by
    obtain rfl := List.length_eq_zero_iff.1 hl
    exact LRel.nil
  | z :: zs, j, [], _, _, hl, _ => by simp at hl
  | z :: zs, j, u :: cs, ho, hp, hl, h => by
    refine LRel.cons (selIV_rel (ho z (by simp)) hp.1 (h 0 u rfl).1 fun hc => ?_) (selL_rel zs (j + 1) cs (fun z hz => ho z (by simp [hz])) hp.2 (by simpa using hl) fun i u hu => ?_)
    · have := (h 0 u rfl).2 hc
      simpa using this.symm
    · have := h (i + 1) u hu
      refine ⟨fun hc => by have := this.1 hc; rwa [show j + (i + 1) = j + 1 + i from by omega] at this, fun hc => by simpa using this.2 hc⟩

theorem run_zeroForm (hT : LayOk P T) (hM : MoreOk P T) {t : TypeId} {L : Lay} (hL : T t = some L) (w : World) : ∃ z, (zeroValue t).run P w = .ok z w ∧ z.cells = L.zero.toArray ∧ aggOf z = isAgg L.kind := by
  obtain ⟨i, d, hi, _, _, ⟨z, hz, hc⟩, _, _⟩ := lay_info (hT t L hL)
  refine ⟨z, by simp [zeroValue, typeInfo, hi, hz], ?_, ?_⟩
  · apply Array.toList_inj.1
    simp [hc]
  · have := hM.zform t L hL
    rw [hi] at this
    simpa [hz] using this

/-- The contents of a map value. -/
theorem mapOf_rel (hH : HRel F w μ H nx) {m : AV} {ka va : Bool} {kks : List IntKind} {vn : Nat} {dom : List Int → Bool} {val : List Int → Nat → IV} {v : Value} (h : mapOf H m = some (ka, kks, va, vn, dom, val)) (hm : ARel w (Own F H μ) μ m v) :
    ∃ b es clock, v = .map (some b) ∧ w.heap[b]? = some (.map es clock) ∧ MRel (IRel w (Own F H μ)) ka kks va vn dom val es.toList := by
  unfold mapOf at h
  split at h
  · simp only [Option.some.injEq, Prod.mk.injEq] at h
    obtain ⟨rfl, rfl, rfl, rfl, rfl, rfl⟩ := h
    obtain ⟨b, es, clock, hv, _, _, h3, h4, h5, h6⟩ := hm
    exact ⟨b, es, clock, hv, h3, h4, h5, h6⟩
  · rename_i k
    split at h
    · rename_i hb
      simp only [Option.some.injEq, Prod.mk.injEq] at h
      obtain ⟨rfl, rfl, rfl, rfl, rfl, rfl⟩ := h
      obtain ⟨b, hb1, hv⟩ := hm
      obtain ⟨b2, es, clock, hb2, h3, h4, h5, h6⟩ := (hH.blk k _ hb).2
      obtain rfl : b2 = b := by rw [hb1] at hb2; exact (Option.some.inj hb2).symm
      exact ⟨b2, es, clock, hv, h3, h4, h5, h6⟩
    · cases h
  · cases h

theorem run_getObj_map {b clock : Nat} {es : Array MapEntry} (h : w.heap[b]? = some (.map es clock)) : (getObj b).run P w = .ok (.map es clock) w := by
  simp [getObj, Sem.run, h]

theorem aggV_rel {l : List AV} {c : CV} {va : Bool} (hm : mk va l = some c) {cs : List Value} (hl : LRel w O μ l cs) : CRel w O μ c (aggV va cs) := by
  obtain ⟨v, hv, h⟩ := mk_sound hm hl
  rcases h with ⟨rfl, rfl⟩ | ⟨rfl, rfl⟩
  · exact hv
  · exact hv

theorem zero_aggV {z : Value} {va : Bool} {l : List Value} (h1 : z.cells = l.toArray) (h2 : aggOf z = va) : z = aggV va l := by
  cases va with
  | true =>
    cases z <;> simp [aggOf] at h2
    rename_i cs
    simp only [Value.cells] at h1
    simp [aggV, h1]
  | false =>
    have hz : z.cells = #[z] := by cases z <;> first | rfl | (simp [aggOf] at h2)
    rw [hz] at h1
    have : l = [z] := by
      have := congrArg Array.toList h1
      simpa using this.symm
    simp [aggV, this]

theorem yield_lookup (hT : LayOk P T) (hZ : ∀ t x, T t = some x → x.zero.all (·.oneCell') = true) (hM : MoreOk P T) (hH : HRel F w μ H nx) (hE : ERel w (Own F H μ) μ E a) {o : Oper} {t k e : TypeId} {x ix : Operand} {ok : Bool} {s b : Nat} {z : List Value} {m : AV} {ka va : Bool} {kks : List IntKind} {ks : List Int} {L : Lay} {vn : Nat} {dom : List Int → Bool} {val : List Int → Nat → IV} {c : CV}
    (ho : o.op = .lookup t x ix ok) (hL : T t = some ⟨.map k e, s, b, z⟩) (hx : rd E x = .cv (.one m)) (hix : keyOf (rd E ix) = some (ka, kks, ks)) (hk : keyForm T k = some (ka, kks)) (hF : T e = some L) (hm : mapOf H m = some (ka, kks, va, vn, dom, val))
    (hva : va = isAgg L.kind) (hvn : vn = L.zero.length) (hc : mk (isAgg L.kind) (selL (dom ks) (val ks) 0 L.zero).1 = some c) (hnx : need E x) (hni : need E ix) (hp : (selL (dom ks) (val ks) 0 L.zero).2) :
    Yield P w (Own F H μ) μ a o (bif ok then .tup [c, ibool (dom ks)] else .cv c) := by
  obtain ⟨bm, es, clock, hv, hb, hR⟩ := mapOf_rel hH hm (rd_one hE hx hnx)
  obtain ⟨hkv, hkl⟩ := keyOf_rel hix (rd_sound hE ix hni)
  have hKF := keyForm_sound hT hM.eqs hk
  have hu : P.underlying t = some (.map k e) := by
    obtain ⟨i, d, _, _, _, _, hd, hk⟩ := lay_info (hT t _ hL)
    cases d <;> simp [kindOf] at hk
    obtain ⟨rfl, rfl⟩ := hk; exact hd
  obtain ⟨r, hr, hf⟩ := run_findKey (w := w) hKF hkl es.toList hR.keys
  have hzo : ∀ u ∈ L.zero, One u := by
    have := hZ e L hF
    rw [List.all_eq_true] at this
    exact this
  have hchk := run_checkKey (w := w) hKF hkl es.isEmpty 9998
  -- the value
  have key : ∃ v0 cs, v0 = aggV va cs ∧ LRel w (Own F H μ) μ (selL (dom ks) (val ks) 0 L.zero).1 cs ∧ ((Instr.lookup t (a.eval x) (a.eval ix) ok).run P w = .ok (if ok then .tuple #[v0, .bool (dom ks)] else v0) w) := by
    cases r with
    | none =>
      have hd := hR.none hf
      obtain ⟨z0, hz0, hz1, hz2⟩ := run_zeroForm hT hM hF w
      have hzv := zero_aggV hz1 (hz2.trans hva.symm)
      refine ⟨z0, L.zero, hzv, selL_rel _ 0 _ hzo hp rfl fun i u hu => ⟨fun hc => (by rw [hd] at hc; cases hc), fun _ => hu⟩, ?_⟩
      simp only [Instr.lookup, hv, hkv, Sem.run_bind, run_underlying hu, Result.andThen_ok, run_getObj_map hb, Sem.run_pure, hd]
      rw [show (10000 : Nat) = 9998 + 2 from rfl, hchk]
      simp [Result.andThen_ok, hr, hz0]
    | some iv =>
      obtain ⟨i, v0⟩ := iv
      obtain ⟨_, e0, he0, hek, hev⟩ := hf
      obtain ⟨hd, cs, hcs, hlen, hRv⟩ := hR.some hKF hkl (List.mem_of_getElem? he0) hek
      subst hev
      refine ⟨e0.val, cs, hcs, selL_rel _ 0 _ hzo hp (by rw [hlen, hvn]) fun i u hu => ⟨fun _ => (by simpa using hRv i u hu), fun hc => (by rw [hd] at hc; cases hc)⟩, ?_⟩
      simp only [Instr.lookup, hv, hkv, Sem.run_bind, run_underlying hu, Result.andThen_ok, run_getObj_map hb, Sem.run_pure, hd]
      rw [show (10000 : Nat) = 9998 + 2 from rfl, hchk]
      simp [Result.andThen_ok, hr]
  obtain ⟨v0, cs, hv0, hl, hrun⟩ := key
  subst hva
  have hcv := aggV_rel hc hl
  rw [← hv0] at hcv
  refine ⟨_, by simp only [execOp, ho, Sem.run_bind, hrun, Result.andThen_ok, Sem.run_pure]; rfl, ?_⟩
  cases ok with
  | true =>
    refine ⟨[v0, .bool (dom ks)], rfl, rfl, fun i x u h1 h2 => ?_⟩
    match i, h1, h2 with
    | 0, h1, h2 => simp at h1 h2; subst h1; subst h2; exact hcv
    | 1, h1, h2 => simp at h1 h2; subst h1; subst h2; exact ⟨rfl, rfl⟩
  | false => exact hcv

theorem yield_aggB (hT : LayOk P T) (hM : MoreOk P T) (hE : ERel w O μ E a) {o : Oper} {op : BinOp} {t t' : TypeId} {x y : Operand} {b : Bool} (ho : o.op = .binOp op t x y t')
    (h : aggB T op t (rd E x) (rd E y) = some b) (hx : need E x) (hy : need E y) : Yield P w O μ a o (.cv (ibool b)) := by
  have core : ∀ (l m : List AV) (kks k1 k2 : List IntKind) (xs ys : List Int), rd E x = .cv (.agg l) → rd E y = .cv (.agg m) → keyForm T t = some (true, kks) → keyInts l = some (k1, xs) → keyInts m = some (k2, ys) → kks = k1 → kks = k2 →
      ∃ X Y, a.eval x = .agg X ∧ a.eval y = .agg Y ∧ EqOk P t ∧ (Op.equalIn 10000 t (.agg X) (.agg Y)).run P w = .ok (eqI xs ys) w := by
    rintro l m kks k1 k2 xs ys h1 h2 h3 h4 h5 rfl rfl
    have hKF := keyForm_sound hT hM.eqs h3
    obtain ⟨e1, n1⟩ := keyOf_rel (x := .cv (.agg l)) (ka := true) (kks := kks) (ks := xs) (v := a.eval x) (by simp [keyOf, h4]) (by have := rd_sound hE x hx; rwa [h1] at this)
    obtain ⟨e2, n2⟩ := keyOf_rel (x := .cv (.agg m)) (ka := true) (kks := kks) (ks := ys) (v := a.eval y) (by simp [keyOf, h5]) (by have := rd_sound hE y hy; rwa [h2] at this)
    have hr := run_equal_keys (w := w) hKF n1 n2
    refine ⟨_, _, e1, e2, ?_, hr⟩
    rcases hKF with ⟨h, _⟩ | ⟨_, _, h, _⟩
    · cases h
    · exact h
  unfold aggB at h
  split at h
  · rename_i l m h1 h2
    split at h
    · rename_i kks k1 xs k2 ys h3 h4 h5
      cases hc : (kindsEq kks k1 && kindsEq kks k2) with
      | false => rw [hc] at h; simp at h
      | true =>
        rw [hc] at h
        simp only [cond_true, Option.some.injEq] at h
        subst h
        simp only [Bool.and_eq_true] at hc
        obtain ⟨X, Y, e1, e2, hok, hr⟩ := core l m kks k1 k2 xs ys h1 h2 h3 h4 h5 (kindsEq_eq hc.1) (kindsEq_eq hc.2)
        refine ⟨.bool (eqI xs ys), ?_, ⟨rfl, rfl⟩⟩
        simp only [execOp, ho, e1, e2, Sem.run_bind, run_eqGuard_agg w _ t x y X Y hok.guard, Result.andThen_ok, run_eql_struct, hr, Sem.run_pure]
    · cases h
  · rename_i l m h1 h2
    split at h
    · rename_i kks k1 xs k2 ys h3 h4 h5
      cases hc : (kindsEq kks k1 && kindsEq kks k2) with
      | false => rw [hc] at h; simp at h
      | true =>
        rw [hc] at h
        simp only [cond_true, Option.some.injEq] at h
        subst h
        simp only [Bool.and_eq_true] at hc
        obtain ⟨X, Y, e1, e2, hok, hr⟩ := core l m kks k1 k2 xs ys h1 h2 h3 h4 h5 (kindsEq_eq hc.1) (kindsEq_eq hc.2)
        refine ⟨.bool (!(eqI xs ys)), ?_, ⟨rfl, rfl⟩⟩
        simp only [execOp, ho, e1, e2, Sem.run_bind, run_eqGuard_agg w _ t x y X Y hok.guard, Result.andThen_ok, run_neq_struct, hr, Sem.run_pure]
    · cases h
  · cases h
end
end Go.Proofs.Ytndfcbcmeeemfaa.Abs
