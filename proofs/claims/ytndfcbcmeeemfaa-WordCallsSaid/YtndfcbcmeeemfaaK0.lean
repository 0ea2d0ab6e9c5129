/-
  MAPS WHOSE KEYS ARE INTEGERS OR STRUCTS OF INTEGERS: what the model's search, look-up and update come to; structs of integers that are compared. No program in sight.
-/
import Derived.Test.YtndfcbcmeeemfaaA4
import Derived.Laws.StructEq
namespace Go.Proofs.Ytndfcbcmeeemfaa.Abs
open Go

theorem eqI_iff : ∀ (l m : List Int), eqI l m = true ↔ l = m
  | [], [] => by simp [eqI]
  | [], y :: m => by simp [eqI]
  | x :: l, [] => by simp [eqI]
  | x :: l, y :: m => by simp [eqI, eqI_iff l m]

structure EqOk (P : Program) (t : TypeId) : Prop where
  stood : P.stoodInHeld t = false
  guard : P.eqGuardType P.depth t = false
  names : ∀ f ∈ (P.fieldsOf t).toList, f.name ≠ "_"

def KF (P : Program) (k : TypeId) (ka : Bool) (kks : List IntKind) : Prop :=
  (ka = false ∧ ∃ q, kks = [q] ∧ P.underlying k = some (.int q)) ∨
  (ka = true ∧ P.underlying k = some (.struct (P.fieldsOf k)) ∧ EqOk P k ∧ (P.fieldsOf k).toList.length = kks.length ∧
    ∀ (i : Nat) f, (P.fieldsOf k).toList[i]? = some f → f.offset = i ∧ ∃ q, kks[i]? = some q ∧ P.underlying f.type = some (.int q))

section
variable {P : Program} {T : Lays} {w : World} {k : TypeId} {ka : Bool} {kks : List IntKind}

theorem intKinds_sound (hT : LayOk P T) : ∀ (fs : List (Nat × TypeId)) (i : Nat) (l : List IntKind), intKinds T i fs = some l → fs.length = l.length ∧ ∀ (j : Nat) p, fs[j]? = some p → p.1 = i + j ∧ ∃ q, l[j]? = some q ∧ P.underlying p.2 = some (.int q)
  | [], i, l, h => by
    simp only [intKinds, Option.some.injEq] at h
    subst h
    exact ⟨rfl, fun j p hp => by simp at hp⟩
  | (off, ft) :: rest, i, l, h => by
    simp only [intKinds] at h
    split at h
    · rename_i q s b z hL
      cases hb : Nat.beq off i with
      | false => rw [hb] at h; simp at h
      | true =>
        rw [hb] at h
        simp only [cond_true] at h
        split at h
        · rename_i l' hl'
          simp only [Option.some.injEq] at h
          subst h
          obtain ⟨h1, h2⟩ := intKinds_sound hT rest (i + 1) l' hl'
          refine ⟨by simp [h1], fun j p hp => ?_⟩
          cases j with
          | zero =>
            simp at hp
            subst hp
            exact ⟨Nat.eq_of_beq_eq_true hb, q, rfl, under_int (hT ft _ hL)⟩
          | succ j =>
            simp at hp
            obtain ⟨h3, q', h4, h5⟩ := h2 j p hp
            exact ⟨by omega, q', by simpa using h4, h5⟩
        · cases h
    · cases h

theorem keyForm_sound (hT : LayOk P T) (hQ : ∀ t fs s b z, T t = some ⟨.st fs, s, b, z⟩ → EqOk P t) (h : keyForm T k = some (ka, kks)) : KF P k ka kks := by
  unfold keyForm at h
  split at h
  · rename_i q s b z hL
    simp only [Option.some.injEq, Prod.mk.injEq] at h
    obtain ⟨rfl, rfl⟩ := h
    exact .inl ⟨rfl, q, rfl, under_int (hT k _ hL)⟩
  · rename_i fs s b z hL
    split at h
    · rename_i l hl
      simp only [Option.some.injEq, Prod.mk.injEq] at h
      obtain ⟨rfl, rfl⟩ := h
      obtain ⟨fields, hu, hfs⟩ := under_st (hT k _ hL)
      have hfo : P.fieldsOf k = fields := by simp [Program.fieldsOf, hu]
      obtain ⟨h1, h2⟩ := intKinds_sound hT fs 0 l hl
      refine .inr ⟨rfl, by rw [hfo]; exact hu, hQ k _ _ _ _ hL, ?_, fun i f hf => ?_⟩
      · rw [hfo, ← h1, ← hfs]; simp
      · rw [hfo] at hf
        obtain ⟨h3, h4⟩ := h2 i (f.offset, f.type) (by rw [← hfs]; simp [hf])
        exact ⟨by simpa using h3, h4⟩
    · cases h
  · cases h

theorem run_part_int {t : TypeId} {q : IntKind} {xs : Array Value} {off : Nat} {v : Value} (h : P.underlying t = some (.int q)) (hx : xs[off]? = some v) : (part t xs off).run P w = .ok v w := by
  simp [part, Go.isAgg, run_underlying h, hx]

theorem eqFields_ints (d : Nat) (X Y : Array Value) : ∀ (fs : List Field) (xs ys : List Int), xs.length = fs.length → ys.length = fs.length →
    (∀ (j : Nat) f x y, fs[j]? = some f → xs[j]? = some x → ys[j]? = some y → f.name ≠ "_" ∧ ∃ q, P.underlying f.type = some (.int q) ∧ X[f.offset]? = some (.int q x) ∧ Y[f.offset]? = some (.int q y)) →
    (Op.eqFields (d + 1) X Y fs).run P w = .ok (eqI xs ys) w
  | [], [], [], _, _, _ => by simp [Op.eqFields, eqI]
  | [], _ :: _, _, h, _, _ => by simp at h
  | [], [], _ :: _, _, h, _ => by simp at h
  | _ :: _, [], _, h, _, _ => by simp at h
  | _ :: _, _ :: _, [], _, h, _ => by simp at h
  | f :: fs, x :: xs, y :: ys, h1, h2, h3 => by
    obtain ⟨hn, q, hq, hX, hY⟩ := h3 0 f x y rfl rfl rfl
    have ih := eqFields_ints d X Y fs xs ys (by simpa using h1) (by simpa using h2) fun j f x y a b c => h3 (j + 1) f x y a b c
    simp only [Op.eqFields, hn, ne_eq, not_false_eq_true, if_true, Sem.run_bind, run_part_int hq hX, run_part_int hq hY, Result.andThen_ok, run_equalIn_int w d f.type q q x y hq, Sem.run_ite, eqI]
    cases hxy : (x == y)
    · simp
    · simpa using ih

theorem keyCells_get {ks : List Int} {i : Nat} {q : IntKind} {x : Int} (h1 : kks[i]? = some q) (h2 : ks[i]? = some x) : (keyCells kks ks)[i]? = some (.int q x) := by
  simp [keyCells, List.getElem?_zipWith, h1, h2]

theorem run_equal_keys (hk : KF P k ka kks) {ks ms : List Int} (h1 : ks.length = kks.length) (h2 : ms.length = kks.length) : (Op.equal k (keyV ka kks ks) (keyV ka kks ms)).run P w = .ok (eqI ks ms) w := by
  rcases hk with ⟨rfl, q, rfl, hq⟩ | ⟨rfl, hu, ok, hlen, hf⟩
  · match ks, ms, h1, h2 with
    | [x], [y], _, _ =>
      show (Op.equalIn (9999 + 1) k (.int q x) (.int q y)).run P w = _
      rw [run_equalIn_int w 9999 k q q x y hq]
      simp [eqI]
  · show (Op.equalIn (9999 + 1) k (.agg (keyCells kks ks).toArray) (.agg (keyCells kks ms).toArray)).run P w = _
    rw [run_equalIn_struct w 9999 k _ _ hu ok.stood]
    refine eqFields_ints 9998 _ _ _ ks ms (by omega) (by omega) fun j f x y ha hb hc => ?_
    obtain ⟨ho, q, hq, hu'⟩ := hf j f ha
    refine ⟨ok.names f (List.mem_of_getElem? ha), q, hu', ?_, ?_⟩
    · rw [ho]; simpa using keyCells_get hq hb
    · rw [ho]; simpa using keyCells_get hq hc

theorem keyV_inj (hk : KF P k ka kks) {ks ms : List Int} (h1 : ks.length = kks.length) (h2 : ms.length = kks.length) : keyV ka kks ks = keyV ka kks ms ↔ ks = ms := by
  refine ⟨fun h => ?_, fun h => by rw [h]⟩
  have hc : keyCells kks ks = keyCells kks ms := by
    rcases hk with ⟨rfl, q, rfl, hq⟩ | ⟨rfl, _⟩
    · match ks, ms, h1, h2 with
      | [x], [y], _, _ =>
        simp only [keyV, aggV, keyCells, cond_false, List.zipWith, List.headD_cons] at h ⊢
        rw [h]
    · simpa [keyV, aggV] using h
  refine List.ext_getElem? fun i => ?_
  rcases Nat.lt_or_ge i kks.length with hi | hi
  · have a := keyCells_get (kks := kks) (ks := ks) (i := i) (List.getElem?_eq_getElem hi) (List.getElem?_eq_getElem (by omega))
    have b := keyCells_get (kks := kks) (ks := ms) (i := i) (List.getElem?_eq_getElem hi) (List.getElem?_eq_getElem (by omega))
    rw [hc, b] at a
    simp only [Option.some.injEq, Value.int.injEq, true_and] at a
    rw [List.getElem?_eq_getElem (by omega), List.getElem?_eq_getElem (by omega), a]
  · rw [List.getElem?_eq_none (by omega), List.getElem?_eq_none (by omega)]

theorem checkKey_int {t : TypeId} {q : IntKind} {x : Int} (hq : P.underlying t = some (.int q)) (e : Bool) (d : Nat) : (Instr.checkKey e (d + 1) t (.int q x)).run P w = .ok () w := by
  simp [Instr.checkKey, run_underlying hq]

theorem run_checkFields (e : Bool) (d : Nat) (X : Array Value) : ∀ (fs : List Field), (∀ f ∈ fs, ∃ q x, P.underlying f.type = some (.int q) ∧ X[f.offset]? = some (.int q x)) →
    (forIn fs PUnit.unit fun (f : Field) (_ : PUnit) => (if f.name ≠ "_" then (do Instr.checkKey e (d + 1) f.type (← part f.type X f.offset); pure (ForInStep.yield PUnit.unit)) else pure (ForInStep.yield PUnit.unit) : Sem (ForInStep PUnit))).run P w = .ok PUnit.unit w
  | [], _ => by simp
  | f :: fs, h => by
    obtain ⟨q, x, hq, hx⟩ := h f (by simp)
    have ih := run_checkFields e d X fs fun f hf => h f (by simp [hf])
    simp only [List.forIn_cons, Sem.run_bind, Sem.run_ite]
    split
    · simp only [run_part_int hq hx, Result.andThen_ok, checkKey_int hq, Sem.run_pure]
      exact ih
    · simp only [Sem.run_pure, Result.andThen_ok]
      exact ih

theorem checkKey_agg (hu : P.underlying k = some (.struct (P.fieldsOf k))) {X : Array Value} (h : ∀ f ∈ (P.fieldsOf k).toList, ∃ q x, P.underlying f.type = some (.int q) ∧ X[f.offset]? = some (.int q x)) (e : Bool) (d : Nat) : (Instr.checkKey e (d + 2) k (.agg X)).run P w = .ok () w := by
  have := run_checkFields (P := P) (w := w) e d X (P.fieldsOf k).toList h
  rw [Instr.checkKey]
  simp only [Sem.run_bind, run_underlying hu, Result.andThen_ok]
  rw [← Array.forIn_toList]
  simp at this ⊢
  simp [this]

theorem run_checkKey (hk : KF P k ka kks) {ks : List Int} (h1 : ks.length = kks.length) (e : Bool) (d : Nat) : (Instr.checkKey e (d + 2) k (keyV ka kks ks)).run P w = .ok () w := by
  rcases hk with ⟨rfl, q, rfl, hq⟩ | ⟨rfl, hu, ok, hlen, hf⟩
  · match ks, h1 with
    | [x], _ => exact checkKey_int hq e (d + 1)
  · refine checkKey_agg hu (X := (keyCells kks ks).toArray) (fun f hf' => ?_) e d
    obtain ⟨i, hi, rfl⟩ := List.mem_iff_getElem.1 hf'
    obtain ⟨ho, q, hq, hu'⟩ := hf i _ (List.getElem?_eq_getElem hi)
    refine ⟨q, ks[i]'(by omega), hu', ?_⟩
    rw [ho]
    simpa using keyCells_get hq (List.getElem?_eq_getElem (by omega))

/-- What a search comes to. -/
def Found (key : Value) (es : List MapEntry) (i0 : Nat) : Option (Nat × Value) → Prop
  | none => ∀ e ∈ es, e.key ≠ key
  | some (i, v) => i0 ≤ i ∧ ∃ e, es[i - i0]? = some e ∧ e.key = key ∧ e.val = v

theorem Found.here {key : Value} {e : MapEntry} {es : List MapEntry} {i : Nat} (h : e.key = key) : Found key (e :: es) i (some (i, e.val)) := ⟨Nat.le_refl _, e, by simp, h, rfl⟩
theorem Found.there {key : Value} {e : MapEntry} {es : List MapEntry} {i : Nat} (h : e.key ≠ key) : ∀ {r : Option (Nat × Value)}, Found key es (i + 1) r → Found key (e :: es) i r
  | none, hr => by
    intro x hx
    rcases List.mem_cons.1 hx with rfl | hx
    · exact h
    · exact hr x hx
  | some (j, v), hr => by
    obtain ⟨h1, x, h2, h3, h4⟩ := hr
    refine ⟨by omega, x, ?_, h3, h4⟩
    obtain ⟨m, rfl⟩ : ∃ m, j = i + 1 + m := ⟨j - (i + 1), by omega⟩
    rw [show i + 1 + m - (i + 1) = m from by omega] at h2
    rw [show i + 1 + m - i = m + 1 from by omega]
    simpa using h2

theorem findNow_int {q : IntKind} {x : Int} : ∀ (es : List MapEntry) (i : Nat), (∀ e ∈ es, ∃ y, e.key = .int q y) → ∃ r, Instr.findNow (.int q) (.int q x) es i = some r ∧ Found (.int q x) es i r
  | [], i, _ => ⟨none, rfl, fun e he => by simp at he⟩
  | e :: es, i, h => by
    obtain ⟨y, hy⟩ := h e (by simp)
    obtain ⟨r, h1, h2⟩ := findNow_int (q := q) (x := x) es (i + 1) fun e he => h e (by simp [he])
    by_cases hxy : x = y
    · subst hxy
      exact ⟨some (i, e.val), by simp [Instr.findNow, hy, Instr.sameNow], .here hy⟩
    · have hb : (x == y) = false := by simpa using hxy
      refine ⟨r, by simp [Instr.findNow, hy, Instr.sameNow, hb, h1], .there (by rw [hy]; simp [Ne.symm hxy]) h2⟩

theorem findAsking_keys (hk : KF P k ka kks) {ks : List Int} (h1 : ks.length = kks.length) : ∀ (es : List MapEntry) (i : Nat), (∀ e ∈ es, ∃ ms, ms.length = kks.length ∧ e.key = keyV ka kks ms) →
    ∃ r, (Instr.findAsking k (keyV ka kks ks) es i).run P w = .ok r w ∧ Found (keyV ka kks ks) es i r
  | [], i, _ => ⟨none, by simp [Instr.findAsking], fun e he => by simp at he⟩
  | e :: es, i, h => by
    obtain ⟨ms, hm, hy⟩ := h e (by simp)
    obtain ⟨r, h3, h4⟩ := findAsking_keys hk h1 es (i + 1) fun e he => h e (by simp [he])
    have he := run_equal_keys (w := w) hk h1 hm
    by_cases hxy : ks = ms
    · subst hxy
      refine ⟨some (i, e.val), ?_, .here hy⟩
      have : eqI ks ks = true := (eqI_iff _ _).2 rfl
      rw [this] at he
      simp [Instr.findAsking, hy, he]
    · refine ⟨r, ?_, .there (fun e' => hxy ((keyV_inj hk h1 hm).1 (by rw [← e', hy]))) h4⟩
      have : eqI ks ms = false := by
        cases hb : eqI ks ms with
        | false => rfl
        | true => exact absurd ((eqI_iff _ _).1 hb) hxy
      rw [this] at he
      simp [Instr.findAsking, hy, he, h3]

theorem run_findKey (hk : KF P k ka kks) {ks : List Int} (h1 : ks.length = kks.length) (es : List MapEntry) (h : ∀ e ∈ es, ∃ ms, ms.length = kks.length ∧ e.key = keyV ka kks ms) :
    ∃ r, (Instr.findKey k (keyV ka kks ks) es).run P w = .ok r w ∧ Found (keyV ka kks ks) es 0 r := by
  rcases hk with ⟨rfl, q, rfl, hq⟩ | hk'
  · match ks, h1 with
    | [x], _ =>
      obtain ⟨r, h2, h3⟩ := findNow_int (q := q) (x := x) es 0 fun e he => by
        obtain ⟨ms, hm, hy⟩ := h e he
        match ms, hm with
        | [y], _ => exact ⟨y, hy⟩
      refine ⟨r, ?_, h3⟩
      show (Instr.findKey k (.int q x) es).run P w = _
      simp [Instr.findKey, run_underlying hq, h2]
  · have hu := hk'.2.1
    obtain rfl := hk'.1
    cases es with
    | nil => exact ⟨none, by simp [Instr.findKey, run_underlying hu, Instr.findNow], fun e he => by simp at he⟩
    | cons e es =>
      obtain ⟨r, h2, h3⟩ := findAsking_keys (w := w) (.inr hk') h1 (e :: es) 0 h
      refine ⟨r, ?_, h3⟩
      have : Instr.findNow (.struct (P.fieldsOf k)) (keyV true kks ks) (e :: es) 0 = none := by simp [Instr.findNow, Instr.sameNow]
      simp [Instr.findKey, run_underlying hu, this, h2]

/-- What a map's entries are. -/
def MRel (R : IV → Value → Prop) (ka : Bool) (kks : List IntKind) (va : Bool) (vn : Nat) (dom : List Int → Bool) (val : List Int → Nat → IV) (es : List MapEntry) : Prop :=
  es.Pairwise (fun x y => x.key ≠ y.key) ∧
  (∀ e ∈ es, ∃ ks, ks.length = kks.length ∧ dom ks = true ∧ e.key = keyV ka kks ks ∧ ∃ cs : List Value, e.val = aggV va cs ∧ cs.length = vn ∧ ∀ j u, cs[j]? = some u → R (val ks j) u) ∧
  (∀ ks, dom ks = true → ks.length = kks.length ∧ ∃ e ∈ es, e.key = keyV ka kks ks)

section
variable {R : IV → Value → Prop} {va : Bool} {vn : Nat} {dom : List Int → Bool} {val : List Int → Nat → IV} {es : List MapEntry}

theorem MRel.keys (h : MRel R ka kks va vn dom val es) : ∀ e ∈ es, ∃ ms, ms.length = kks.length ∧ e.key = keyV ka kks ms :=
  fun e he => let ⟨ks, h1, _, h2, _⟩ := h.2.1 e he; ⟨ks, h1, h2⟩

theorem MRel.none (h : MRel R ka kks va vn dom val es) {ks : List Int} (hf : ∀ e ∈ es, e.key ≠ keyV ka kks ks) : dom ks = false := by
  cases hd : dom ks with
  | false => rfl
  | true => obtain ⟨_, e, he, hk⟩ := h.2.2 ks hd; exact absurd hk (hf e he)

theorem MRel.some (hk : KF P k ka kks) (h : MRel R ka kks va vn dom val es) {ks : List Int} (hl : ks.length = kks.length) {e : MapEntry} (he : e ∈ es) (hek : e.key = keyV ka kks ks) :
    dom ks = true ∧ ∃ cs : List Value, e.val = aggV va cs ∧ cs.length = vn ∧ ∀ j u, cs[j]? = some u → R (val ks j) u := by
  obtain ⟨ms, h1, h2, h3, h4⟩ := h.2.1 e he
  have : ms = ks := (keyV_inj hk h1 hl).1 (by rw [← h3, hek])
  subst this
  exact ⟨h2, h4⟩

theorem MRel.put_none (_hk : KF P k ka kks) (h : MRel R ka kks va vn dom val es) {ks : List Int} (hl : ks.length = kks.length) (hf : ∀ e ∈ es, e.key ≠ keyV ka kks ks) {cs : List Value} (hv : cs.length = vn) {f : Nat → IV} (hR : ∀ j u, cs[j]? = Option.some u → R (f j) u) {e : MapEntry} (hek : e.key = keyV ka kks ks) (hev : e.val = aggV va cs) :
    MRel R ka kks va vn (fun k' => eqI ks k' || dom k') (fun k' => bif eqI ks k' then f else val k') (es ++ [e]) := by
  have hself : eqI ks ks = true := (eqI_iff _ _).2 rfl
  refine ⟨List.pairwise_append.2 ⟨h.1, by simp, fun x hx y hy => ?_⟩, fun x hx => ?_, fun ms hms => ?_⟩
  · simp at hy; subst hy; rw [hek]; exact hf x hx
  · rcases List.mem_append.1 hx with hx | hx
    · obtain ⟨ms, h1, h2, h3, h4⟩ := h.2.1 x hx
      have hne : eqI ks ms = false := by
        cases hb : eqI ks ms with
        | false => rfl
        | true => obtain rfl := (eqI_iff _ _).1 hb; exact absurd h3 (hf x hx)
      exact ⟨ms, h1, by simp [h2], h3, by simpa [hne] using h4⟩
    · simp at hx; subst hx
      exact ⟨ks, hl, by simp [hself], hek, cs, hev, hv, by simpa [hself] using hR⟩
  · cases hb : eqI ks ms with
    | true => obtain rfl := (eqI_iff _ _).1 hb; exact ⟨hl, e, by simp, hek⟩
    | false =>
      simp only [hb, Bool.false_or] at hms
      obtain ⟨h1, x, hx, h2⟩ := h.2.2 ms hms
      exact ⟨h1, x, by simp [hx], h2⟩

theorem MRel.put_some (hk : KF P k ka kks) (h : MRel R ka kks va vn dom val es) {ks : List Int} (hl : ks.length = kks.length) {i : Nat} {e0 : MapEntry} (hi : es[i]? = Option.some e0) (hf : e0.key = keyV ka kks ks) {cs : List Value} (hv : cs.length = vn) {f : Nat → IV} (hR : ∀ j u, cs[j]? = Option.some u → R (f j) u) {e : MapEntry} (hek : e.key = keyV ka kks ks) (hev : e.val = aggV va cs) :
    MRel R ka kks va vn (fun k' => eqI ks k' || dom k') (fun k' => bif eqI ks k' then f else val k') (es.set i e) := by
  have hself : eqI ks ks = true := (eqI_iff _ _).2 rfl
  have hlt : i < es.length := (List.getElem?_eq_some_iff.1 hi).1
  have hei : es[i] = e0 := (List.getElem?_eq_some_iff.1 hi).2
  have hp := List.pairwise_iff_getElem.1 h.1
  refine ⟨?_, fun x hx => ?_, fun ms hms => ?_⟩
  · rw [List.pairwise_iff_getElem]
    intro a b ha hb hab
    simp only [List.length_set] at ha hb
    have := hp a b ha hb hab
    rw [List.getElem_set, List.getElem_set]
    split
    · rename_i h1; subst h1
      split
      · omega
      · rw [hek, ← hf, ← hei]; exact this
    · split
      · rename_i h1; subst h1; rw [hek, ← hf, ← hei]; exact this
      · exact this
  · obtain ⟨n, hn, rfl⟩ := List.mem_iff_getElem.1 hx
    simp only [List.length_set] at hn
    rw [List.getElem_set]
    split
    · exact ⟨ks, hl, by simp [hself], hek, cs, hev, hv, by simpa [hself] using hR⟩
    · rename_i hne
      obtain ⟨ms, h1, h2, h3, h4⟩ := h.2.1 es[n] (List.getElem_mem hn)
      have hne : eqI ks ms = false := by
        cases hb : eqI ks ms with
        | false => rfl
        | true =>
          obtain rfl := (eqI_iff _ _).1 hb
          rcases Nat.lt_or_gt_of_ne hne with h5 | h5
          · exact absurd (by rw [hei, hf, h3]) (hp i n hlt hn h5)
          · exact absurd (by rw [hei, hf, h3]) (hp n i hn hlt h5)
      exact ⟨ms, h1, by simp [h2], h3, by simpa [hne] using h4⟩
  · cases hb : eqI ks ms with
    | true => obtain rfl := (eqI_iff _ _).1 hb; exact ⟨hl, e, List.mem_iff_getElem.2 ⟨i, by simpa using hlt, by simp⟩, hek⟩
    | false =>
      simp only [hb, Bool.false_or] at hms
      obtain ⟨h1, x, hx, h2⟩ := h.2.2 ms hms
      obtain ⟨n, hn, rfl⟩ := List.mem_iff_getElem.1 hx
      refine ⟨h1, es[n], List.mem_iff_getElem.2 ⟨n, by simpa using hn, ?_⟩, h2⟩
      rw [List.getElem_set, if_neg]
      rintro rfl
      rw [hei, hf] at h2
      have := (keyV_inj hk hl h1).1 h2
      subst this
      rw [hself] at hb; cases hb
end

theorem sameBits_ints (n : Nat) : ∀ (kks : List IntKind) (ks : List Int), ((keyCells kks ks).zip (keyCells kks ks)).all (fun (x, y) => Instr.sameBits n x y) = true
  | [], _ => by simp [keyCells]
  | _ :: _, [] => by simp [keyCells]
  | q :: kks, x :: ks => by
    have := sameBits_ints n kks ks
    simp only [keyCells, List.zipWith, List.zip_cons_cons, List.all_cons] at this ⊢
    rw [this]
    simp [Instr.sameBits]

theorem sameBits_key (hk : KF P k ka kks) {ks : List Int} (hl : ks.length = kks.length) (n : Nat) : Instr.sameBits (n + 1) (keyV ka kks ks) (keyV ka kks ks) = true := by
  rcases hk with ⟨rfl, q, rfl, hq⟩ | ⟨rfl, _⟩
  · match ks, hl with
    | [x], _ => simp [keyV, aggV, keyCells, Instr.sameBits]
  · simp only [keyV, aggV, cond_true, Instr.sameBits, beq_self_eq_true, Bool.true_and]
    simpa using sameBits_ints n kks ks
end
end Go.Proofs.Ytndfcbcmeeemfaa.Abs
