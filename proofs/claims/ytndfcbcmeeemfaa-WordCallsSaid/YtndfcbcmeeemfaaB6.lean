/-
  REGIONS WHOSE ORDER IS OPEN (5): a map that is built of a literal.
-/
import Derived.Test.YtndfcbcmeeemfaaB5
namespace Go.Proofs.Ytndfcbcmeeemfaa.Abs
open Go

/-- One operation of such a region. -/
def litStep (P : Program) (T : Lays) (orc : Tab) (H : Nat → Option ABlk) (nx m0 : Nat) (ka : Bool) (kks : List IntKind) (va : Bool) (vn : Nat) (c : List Nat) (i : Nat) (E : Nat → SV) (o : Oper) (g : Option Bool) : Option (SV × Prop × Option (List Int × (Nat → IV))) :=
  match o.op with
  | .makeMap _ none => match g with
    | none => bif Nat.beq i m0 then some (.cv (.one (.omp nx)), True, none) else none
    | some _ => none
  | .insert t m k x => match g, o.dst, litPut T nx ka kks va vn E t m k x with
    | none, none, some (ks, f, p) => bif (c.getD i 0).testBit m0 && !(Nat.beq i m0) then some (.undef, p, some (ks, f)) else none
    | _, _, _ => none
  | _ => match stepV P T orc H i E o g with
    | some (x, vc) => bif Nat.beq i m0 then none else some (x, vc, none)
    | none => none

def litOps (P : Program) (T : Lays) (orc : Tab) (nx m0 : Nat) (ka : Bool) (kks : List IntKind) (va : Bool) (vn : Nat) (c : List Nat) (ops : List Oper) (n : Nat) (H : Nat → Option ABlk) : Nat → (Nat → SV) → List Oper → Option (List (Option Nat × SV) × List (Option (List Int × (Nat → IV))) × (Nat → SV) × Prop)
  | _, E, [] => some ([], [], E, True)
  | i, E, o :: rest => match guardOf ops (restr E (looks ops o)) o.guard with
    | none => none
    | some g => bif dstOk o.dst n then match litStep P T orc H nx m0 ka kks va vn c i (restr E (looks ops o)) o g with
      | none => none
      | some (x, vc, u) => match litOps P T orc nx m0 ka kks va vn c ops n H (i + 1) (putE E o.dst x) rest with
        | none => none
        | some (tr, ins, Ef, p) => some ((o.dst, x) :: tr, u :: ins, Ef, vc ∧ p)
      else none

section
variable {K : Nat} {P : Program} {T : Lays} {S : St} {Q : Exit → St → Prop}

theorem litOps_get {orc : Tab} {nx m0 : Nat} {ka va : Bool} {kks : List IntKind} {vn : Nat} {c : List Nat} {ops : List Oper} {n : Nat} {H : Nat → Option ABlk} : ∀ (rest : List Oper) (k : Nat) (E : Nat → SV) (tr : List (Option Nat × SV)) (ins : List (Option (List Int × (Nat → IV)))) (Ef : Nat → SV) (p : Prop), litOps P T orc nx m0 ka kks va vn c ops n H k E rest = some (tr, ins, Ef, p) → p →
    tr.length = rest.length ∧ ins.length = rest.length ∧ (Ef = envD (fun _ => true) tr E) ∧ ∀ j o, rest[j]? = some o → ∃ g x vc u, guardOf ops (restr (envD (fun i => Nat.blt i j) tr E) (looks ops o)) o.guard = some g ∧ dstOk o.dst n = true ∧
      litStep P T orc H nx m0 ka kks va vn c (k + j) (restr (envD (fun i => Nat.blt i j) tr E) (looks ops o)) o g = some (x, vc, u) ∧ vc ∧ tr[j]? = some (o.dst, x) ∧ ins[j]? = some u := by
  intro rest
  induction rest with
  | nil =>
    intro k E tr ins Ef p h hp
    simp only [litOps, Option.some.injEq, Prod.mk.injEq] at h
    obtain ⟨rfl, rfl, rfl, _⟩ := h
    exact ⟨rfl, rfl, by funext t; rfl, fun j o hj => by simp at hj⟩
  | cons o rest ih =>
    intro k E tr ins Ef p h hp
    simp only [litOps] at h
    split at h
    · cases h
    · rename_i g hg
      cases hd : dstOk o.dst n with
      | false => rw [hd] at h; simp at h
      | true =>
        rw [hd] at h
        simp only [cond_true] at h
        split at h
        · cases h
        · rename_i x vc u hs
          split at h
          · cases h
          · rename_i tr' ins' Ef' p' hrest
            simp only [Option.some.injEq, Prod.mk.injEq] at h
            obtain ⟨rfl, rfl, rfl, rfl⟩ := h
            obtain ⟨h1, h1', h2, h3⟩ := ih (k + 1) _ tr' ins' Ef' p' hrest hp.2
            refine ⟨by simp [h1], by simp [h1'], ?_, fun j o' hj => ?_⟩
            · rw [h2]
              funext t
              simp only [envD, valD]
              rw [valD_shift (D' := fun _ => true) tr' 0 1 fun j => rfl]
              cases valD (fun _ => true) 1 tr' t with
              | some y => simp
              | none =>
                simp only [Option.getD_none, putE_get]
                by_cases hd' : o.dst = some t <;> simp [hd']
            · cases j with
              | zero =>
                simp at hj
                subst hj
                have e : envD (fun i => Nat.blt i 0) ((o.dst, x) :: tr') E = E := by
                  funext t
                  simp only [envD]
                  rw [valD_none _ _ fun j => rfl]
                  rfl
                rw [e]
                exact ⟨g, x, vc, u, hg, hd, hs, hp.1, rfl, rfl⟩
              | succ j =>
                obtain ⟨g', x', vc', u', q1, q2, q3, q4, q5, q6⟩ := h3 j o' (by simpa using hj)
                have e : envD (fun i => Nat.blt i (j + 1)) ((o.dst, x) :: tr') E = envD (fun i => Nat.blt i j) tr' (putE E o.dst x) := by
                  funext t
                  simp only [envD, valD]
                  rw [valD_shift (D := fun i => Nat.blt i (j + 1)) (D' := fun i => Nat.blt i j) tr' (0 + 1) 0 fun i => by
                    simp only [Nat.blt]
                    rw [show (0 + 1 + i).succ = (0 + i).succ.succ from by omega]
                    rfl]
                  cases valD (fun i => Nat.blt i j) 0 tr' t with
                  | some y => simp
                  | none =>
                    simp only [Option.getD_none, putE_get]
                    have : Nat.blt 0 (j + 1) = true := rfl
                    by_cases hd' : o.dst = some t <;> simp [hd', this]
                rw [e, show k + (j + 1) = k + 1 + j from by omega]
                exact ⟨g', x', vc', u', q1, q2, q3, q4, by simpa using q5, by simpa using q6⟩

theorem domD_congr {D D' : Nat → Bool} : ∀ (l : List (Option (List Int × (Nat → IV)))) (k : Nat), (∀ j, j < l.length → D (k + j) = D' (k + j)) → domD D k l = domD D' k l ∧ mvalD D k l = mvalD D' k l
  | [], _, _ => ⟨rfl, rfl⟩
  | x :: l, k, h => by
    have ih := domD_congr (D := D) (D' := D') l (k + 1) fun j hj => by
      have := h (j + 1) (by simpa using hj)
      rwa [show k + (j + 1) = k + 1 + j from by omega] at this
    have h0 := h 0 (by simp)
    simp only [Nat.add_zero] at h0
    cases x with
    | none => exact ⟨by funext k'; simp only [domD, ih.1], by funext k'; simp only [mvalD, ih.2]⟩
    | some q => exact ⟨by funext k'; simp only [domD, ih.1, h0], by funext k'; simp only [mvalD, ih.2, h0]⟩

theorem domD_none {D : Nat → Bool} : ∀ (l : List (Option (List Int × (Nat → IV)))) (k : Nat), (∀ (j : Nat) q, l[j]? = some (some q) → D (k + j) = false) → domD D k l = (fun _ => false) ∧ mvalD D k l = fun _ _ => ivDef
  | [], _, _ => ⟨rfl, rfl⟩
  | x :: l, k, h => by
    have ih := domD_none (D := D) l (k + 1) fun j q hj => by
      have := h (j + 1) q (by simpa using hj)
      rwa [show k + (j + 1) = k + 1 + j from by omega] at this
    cases x with
    | none => exact ⟨by funext k'; simp only [domD, ih.1], by funext k'; simp only [mvalD, ih.2]⟩
    | some q =>
      have h0 := h 0 q rfl
      simp only [Nat.add_zero] at h0
      exact ⟨by funext k'; simp [domD, ih.1, h0], by funext k'; simp [mvalD, ih.2, h0]⟩

theorem mvalD_all {q : (Nat → IV) → Prop} {k' : List Int} : ∀ (l : List (Option (List Int × (Nat → IV)))) (k : Nat), (∀ ks f, some (ks, f) ∈ l → q f) → domD (fun _ => true) k l k' = true → q (mvalD (fun _ => true) k l k')
  | [], _, _, h => by simp [domD] at h
  | none :: l, k, hq, h => mvalD_all l (k + 1) (fun ks f hf => hq ks f (by simp [hf])) h
  | some (ks, f) :: l, k, hq, h => by
    simp only [mvalD, Bool.true_and]
    cases he : eqI ks k' with
    | true => exact hq ks f (by simp)
    | false =>
      refine mvalD_all l (k + 1) (fun ks f hf => hq ks f (by simp [hf])) ?_
      simpa [domD, he] using h

/-- One more of no entry. -/
theorem domD_same {D : Nat → Bool} {i : Nat} {l : List (Option (List Int × (Nat → IV)))} (h : l[i]? = some none) : domD (fun j => D j || j == i) 0 l = domD D 0 l ∧ mvalD (fun j => D j || j == i) 0 l = mvalD D 0 l := by
  have : ∀ (l : List (Option (List Int × (Nat → IV)))) (k : Nat), (k ≤ i → l[i - k]? = some none) → domD (fun j => D j || j == i) k l = domD D k l ∧ mvalD (fun j => D j || j == i) k l = mvalD D k l := by
    intro l
    induction l with
    | nil => intro k _; exact ⟨rfl, rfl⟩
    | cons x l ih =>
      intro k hk
      obtain ⟨h1, h2⟩ := ih (k + 1) fun hk' => by
        have := hk (by omega)
        rw [show i - k = (i - (k + 1)) + 1 from by omega] at this
        simpa using this
      cases x with
      | none => exact ⟨by funext k'; simp only [domD, h1], by funext k'; simp only [mvalD, h2]⟩
      | some q =>
        have hne : (k == i) = false := by
          cases hb : k == i with
          | false => rfl
          | true =>
            have := eq_of_beq hb
            subst this
            have := hk (Nat.le_refl _)
            simp at this
        exact ⟨by funext k'; simp only [domD, h1, hne, Bool.or_false], by funext k'; simp only [mvalD, h2, hne, Bool.or_false]⟩
  exact this l 0 fun _ => by simpa using h

/-- The state when some of the operations are done. -/
def litS (S : St) (m0 : Nat) (ka : Bool) (kks : List IntKind) (va : Bool) (vn : Nat) (tr : List (Option Nat × SV)) (ins : List (Option (List Int × (Nat → IV)))) (D : Nat → Bool) : St :=
  { size := S.size, env := envD D tr S.env, heap := bif D m0 then updH S.heap [(S.next, some (.mp ka kks va vn (domD D 0 ins) (mvalD D 0 ins)))] else S.heap, next := bif D m0 then S.next + 1 else S.next }

theorem stepV_sound' (G : Good P T) {orc : Tab} (hTab : TabOk P orc) {C : Ctx K} {ops : Array Oper} {Q : Exit → Act → World → Prop} {i k : Nat} {o : Oper} {g : Option Bool} {x : SV} {vc : Prop} {l : List Nat} {w : World} {μ : Nat → Option Nat} {a : Act} {S : St}
    (hi : ops[i]? = some o) (hall : (ops.toList.all fun o => dstOk o.dst S.size) = true) (hR : Rel C μ S a w) (hg : guardOf ops.toList (restr S.env l) o.guard = some g) (hd : dstOk o.dst S.size = true)
    (h : stepV P T orc S.heap k (restr S.env l) o g = some (x, vc)) (hv : vc) {K : Act → World → Prop} (hK : ∀ v w', Rel C μ { S with env := putE S.env o.dst x } (a.put o.dst v) w' → K (a.put o.dst v) w') : wpOp P ops Q i K a w :=
  stepV_sound G hTab (E := S.env) hi hall hR hg hd h hv hK

theorem AW_lit (G : Good P T) (hm : P.follows .mixedOrders = true) {id : Nat} {ops : Array Oper} (orc : Tab) (hTab : TabOk P orc) (m0 : Nat) (ka va : Bool) (kks : List IntKind) (vn : Nat) {tr : List (Option Nat × SV)} {ins : List (Option (List Int × (Nat → IV)))} {Ef : Nat → SV} {p : Prop} (hall : (ops.toList.all fun o => dstOk o.dst S.size) = true) (hord : ordOk ops.toList = true)
    (h : litOps P T orc S.next m0 ka kks va vn (clo [] ops.toList) ops.toList S.size S.heap 0 S.env ops.toList = some (tr, ins, Ef, p)) (hp : p) (hap : apart ins = true) (hm0 : Nat.blt m0 ops.toList.length = true)
    (hQ : Q .normal { size := S.size, env := Ef, heap := updH S.heap [(S.next, some (.mp ka kks va vn (domD (fun _ => true) 0 ins) (mvalD (fun _ => true) 0 ins)))], next := S.next + 1 }) : AW K P (.region id ops true) Q S := by
  intro C μ a w hR
  obtain ⟨hlen, hilen, hEf, hget⟩ := litOps_get ops.toList 0 S.env tr ins Ef p h hp
  have hclo : ∀ k i, ((clo [] ops.toList).getD k 0).testBit i = true → Reach ops k i := clo_reach ops.toList [] (fun j o hj => by simpa using hj) fun k i hk => by simp at hk
  have hHn : S.heap S.next = none := by
    cases h : S.heap S.next with
    | none => rfl
    | some B => have := (hR.heap.blk _ B h).1; omega
  refine draw_core (E0 := S.env) (tr := tr) hm hord (by simpa using hlen) (fun j o hj => ?_) (fun D a w => ∃ μ, Rel C μ (litS S m0 ka kks va vn tr ins D) a w) ?_ ?_ ?_
  · obtain ⟨_, x, _, _, _, _, _, _, q, _⟩ := hget j o (by simpa using hj)
    exact ⟨x, q⟩
  · refine ⟨μ, ?_⟩
    have e : litS S m0 ka kks va vn tr ins (fun _ => false) = S := by
      have : envD (fun _ => false) tr S.env = S.env := by
        funext t
        simp only [envD]
        rw [valD_none _ _ fun j => rfl]
        rfl
      unfold litS
      rw [this]
      rfl
    rw [e]
    exact hR.drew rfl rfl rfl rfl
  · rintro D i o x a w ho htri hDi hT hF ⟨μ, hRi⟩ hrestr henv
    obtain ⟨g, x', vc, u, hg, hd, hst, hvc, htri', hui⟩ := hget i o (by simpa using ho)
    rw [htri] at htri'
    simp only [Option.some.injEq, Prod.mk.injEq, true_and] at htri'
    subst htri'
    rw [Nat.zero_add] at hst
    rw [← hrestr] at hg hst
    have hall' : ∀ (j : Nat) o', ops[j]? = some o' → dstOk o'.dst S.size = true := by
      intro j o' hj
      rw [List.all_eq_true] at hall
      exact hall o' (List.mem_of_getElem? (show ops.toList[j]? = some o' by simpa using hj))
    -- a step that changes no memory
    have plain : Nat.beq i m0 = false → u = none → stepV P T orc S.heap i (restr (envD D tr S.env) (looks ops.toList o)) o g = some (x, vc) → wpOp P ops (Lift C Q) i (fun a w => ∃ μ, Rel C μ (litS S m0 ka kks va vn tr ins (fun j => D j || j == i)) a w) a w := by
      intro hne hu hs
      subst hu
      have hs' : stepV P T orc (litS S m0 ka kks va vn tr ins D).heap i (restr (litS S m0 ka kks va vn tr ins D).env (looks ops.toList o)) o g = some (x, vc) := by
        refine stepV_more (fun k B hB => ?_) hs
        show (bif D m0 then _ else S.heap) k = some B
        cases D m0 with
        | false => exact hB
        | true =>
          simp only [cond_true]
          rw [updH_one, if_neg (by rintro rfl; rw [hHn] at hB; cases hB)]
          exact hB
      refine stepV_sound' (S := litS S m0 ka kks va vn tr ins D) G hTab ho hall hRi hg hd hs' hvc fun v w' hR' => ⟨μ, ?_⟩
      have hDm : (D m0 || m0 == i) = D m0 := by
        have : (m0 == i) = false := by
          cases hb : m0 == i with
          | false => rfl
          | true => have := eq_of_beq hb; subst this; simp at hne
        rw [this, Bool.or_false]
      have e : litS S m0 ka kks va vn tr ins (fun j => D j || j == i) = { litS S m0 ka kks va vn tr ins D with env := putE (litS S m0 ka kks va vn tr ins D).env o.dst x } := by
        unfold litS
        simp only [henv, hDm, (domD_same (D := D) hui).1, (domD_same (D := D) hui).2]
      rw [e]
      exact hR'
    have run : ∀ {y : SV} {S1 : St}, Does P C.F w (litS S m0 ka kks va vn tr ins D).heap μ (litS S m0 ka kks va vn tr ins D).next a o y S1.heap S1.next → g = none → S1.size = S.size → S1.env = envD D tr S.env → { S1 with env := putE S1.env o.dst y } = litS S m0 ka kks va vn tr ins (fun j => D j || j == i) → wpOp P ops (Lift C Q) i (fun a w => ∃ μ, Rel C μ (litS S m0 ka kks va vn tr ins (fun j => D j || j == i)) a w) a w := by
      rintro y S1 ⟨v, w', μ', hrun, hext, hH', hs⟩ hgn hsz he heq
      subst hgn
      have hR0 := (restr_le (S := litS S m0 ka kks va vn tr ins D) (litS S m0 ka kks va vn tr ins D).env (looks ops.toList o)).rel hRi
      have hw := guardOf_sound hR0.env hg hR0.size hall'
      unfold wpOp
      rw [ho]
      simp only
      rw [if_pos (by rw [hw]; rfl)]
      refine .inl ?_
      unfold Oper.wp
      have hR1 : Rel C μ' S1 a w' := by
        have := hRi.step hext hH'
        obtain ⟨z1, z2, z3, z4⟩ := S1
        simp only at hsz he
        subst hsz
        subst he
        exact this
      have hR2 := hR1.put (d := o.dst) hs (by rw [hsz]; exact hd)
      rw [heq] at hR2
      rcases hrun with hrun | ⟨hrun, rfl⟩
      · rw [hrun]; exact ⟨μ', hR2⟩
      · rw [hrun]; exact ⟨μ', hR2⟩
    have hRr := (restr_le (S := litS S m0 ka kks va vn tr ins D) (litS S m0 ka kks va vn tr ins D).env (looks ops.toList o)).rel hRi
    unfold litStep at hst
    split at hst
    · rename_i t hop
      cases g with
      | some _ => simp at hst
      | none =>
        cases hb : Nat.beq i m0 with
        | false => rw [hb] at hst; simp at hst
        | true =>
          rw [hb] at hst
          simp only [cond_true, Option.some.injEq, Prod.mk.injEq] at hst
          obtain ⟨rfl, rfl, rfl⟩ := hst
          obtain rfl := Nat.eq_of_beq_eq_true hb
          have hdoes : Does P C.F w S.heap μ S.next a o (.cv (.one (.omp S.next))) (updH S.heap [(S.next, some (.mp ka kks va vn (fun _ => false) fun _ _ => ivDef))]) (S.next + 1) := by
            refine does_makeMap ?_ hop
            have := hRi.heap
            simp only [litS, hDi, cond_false] at this
            exact this
          refine run (S1 := { size := S.size, env := envD D tr S.env, heap := updH S.heap [(S.next, some (.mp ka kks va vn (fun _ => false) fun _ _ => ivDef))], next := S.next + 1 }) (by simpa only [litS, hDi, cond_false] using hdoes) rfl rfl rfl ?_
          have hnone : ∀ (j : Nat) q, ins[j]? = some (some q) → (D (0 + j) || (0 + j) == i) = false := by
            intro j q hj
            rw [Nat.zero_add]
            have hji : j ≠ i := by rintro rfl; rw [hui] at hj; cases hj
            have hjl : j < ops.toList.length := by rw [← hilen]; exact (List.getElem?_eq_some_iff.1 hj).1
            obtain ⟨g2, x2, vc2, u2, _, _, hst2, _, _, hu2⟩ := hget j _ (List.getElem?_eq_getElem hjl)
            rw [hj] at hu2
            simp only [Option.some.injEq] at hu2
            subst hu2
            have hDj : D j = false := by
              cases hDj : D j with
              | false => rfl
              | true =>
                exfalso
                rw [Nat.zero_add] at hst2
                unfold litStep at hst2
                split at hst2
                · cases g2 with
                  | some _ => simp at hst2
                  | none => cases hb2 : Nat.beq j i with
                    | false => rw [hb2] at hst2; simp at hst2
                    | true => exact hji (Nat.eq_of_beq_eq_true hb2)
                · split at hst2
                  · rename_i hlp
                    cases hb2 : (((clo [] ops.toList).getD j 0).testBit i && !(Nat.beq j i)) with
                    | false => rw [hb2] at hst2; simp at hst2
                    | true =>
                      rw [Bool.and_eq_true] at hb2
                      exact hF j hDj (hclo _ _ hb2.1)
                  · cases hst2
                · split at hst2
                  · cases hb2 : Nat.beq j i with
                    | true => exact hji (Nat.eq_of_beq_eq_true hb2)
                    | false => rw [hb2] at hst2; simp at hst2
                  · cases hst2
            rw [hDj]
            simpa using hji
          have hd0 := domD_none (D := fun j => D j || j == i) ins 0 hnone
          unfold litS
          simp only [henv, hd0.1, hd0.2, beq_self_eq_true, Bool.or_true, cond_true]
    · rename_i t m k y hop
      split at hst
      · rename_i ks f q hdst hlp
        cases hb : (((clo [] ops.toList).getD i 0).testBit m0 && !(Nat.beq i m0)) with
        | false => rw [hb] at hst; simp at hst
        | true =>
          rw [hb] at hst
          simp only [cond_true, Option.some.injEq, Prod.mk.injEq] at hst
          obtain ⟨rfl, rfl, rfl⟩ := hst
          rw [Bool.and_eq_true] at hb
          have hDm : D m0 = true := hT m0 (hclo _ _ hb.1)
          have hne : i ≠ m0 := by
            rintro rfl
            simp at hb
          have hput := litPut_put (H := (litS S m0 ka kks va vn tr ins D).heap) hlp (by simp only [litS, hDm, cond_true]; rw [updH_one, if_pos rfl])
          have hdoes := does_mapPut0 G.lay G.more hRr.heap hRr.env (.inr hop) hput hvc
          refine run (y := .undef) (S1 := { size := S.size, env := envD D tr S.env, heap := _, next := _ }) hdoes rfl rfl rfl ?_
          have hadd : ∀ j, (D j || j == i) = (D j || j == i) := fun _ => rfl
          have e1 := fun k' => domD_add (D := D) (D' := fun j => D j || j == i) (i := i) hadd (ks := ks) (f := f) ins 0 (fun _ => by simpa using hui) k'
          have e2 := fun k' => mvalD_add (D := D) (D' := fun j => D j || j == i) (i := i) hadd (ks := ks) (f := f) ins 0 hap (fun _ => by simpa using hui) k'
          simp only [Nat.zero_le, decide_true, Bool.true_and] at e1 e2
          unfold litS
          rw [funext e1, funext e2]
          simp only [henv, hdst, hDm, Bool.true_or, cond_true, putE, St.mk.injEq, true_and, and_true]
          funext b
          by_cases hbn : b = S.next
          · simp [updH_one, hbn]
          · have hb' : Nat.beq b S.next = false := by
              cases hb' : Nat.beq b S.next with
              | false => rfl
              | true => exact absurd (Nat.eq_of_beq_eq_true hb') hbn
            simp [updH, hb']
      · cases hst
    · split at hst
      · rename_i x2 vc2 hs
        cases hb : Nat.beq i m0 with
        | true => rw [hb] at hst; simp at hst
        | false =>
          rw [hb] at hst
          simp only [cond_false, Option.some.injEq, Prod.mk.injEq] at hst
          obtain ⟨rfl, rfl, rfl⟩ := hst
          exact plain hb rfl hs
      · cases hst
  · rintro D a w hall1 hall2 ⟨μ, hRi⟩
    refine ⟨μ, _, hRi, ?_⟩
    have hDm : D m0 = true := hall1 m0 (by
      have : m0 < ops.toList.length := Nat.le_of_ble_eq_true hm0
      simpa using this)
    have hcg := domD_congr (D := D) (D' := fun _ => true) ins 0 fun j hj => by
      rw [Nat.zero_add]
      exact hall1 j (by rw [hilen] at hj; simpa using hj)
    have henv : envD D tr S.env = Ef := by
      rw [hEf]
      funext t
      simp only [envD]
      congr 1
      refine valD_congr tr 0 fun j d y hj _ => ?_
      rw [Nat.zero_add]
      exact hall1 j (by
        have := (List.getElem?_eq_some_iff.1 hj).1
        rw [hlen] at this
        simpa using this)
    unfold litS
    simp only [hDm, cond_true, hcg.1, hcg.2, henv]
    exact hQ
end
end Go.Proofs.Ytndfcbcmeeemfaa.Abs
