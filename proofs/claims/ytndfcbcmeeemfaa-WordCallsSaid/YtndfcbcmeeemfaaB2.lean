/-
  REGIONS WHOSE ORDER IS OPEN, of operations that change no memory of ours, calls of that kind among them: whatever the order, they come to what they come to in the order of the text.
-/
import Derived.Test.YtndfcbcmeeemfaaB1
import Derived.RegionTactic
namespace Go.Proofs.Ytndfcbcmeeemfaa.Abs
open Go

section inv
variable {K : Nat} {P : Program} {ops : Array Oper} {Q : Exit → Act → World → Prop}

/-- An invariant over what has been done. -/
theorem wpAny_inv (I : Array Bool → Act → World → Prop) (hstep : ∀ listed a w i, I listed a w → i ∈ Region.ready .any ops listed → wpOp P ops Q i (I (listed.setIfInBounds i true)) a w)
    (hend : ∀ listed a w, I listed a w → Region.ready .any ops listed = [] → Q .normal a w) :
    ∀ (fuel : Nat) (listed : Array Bool) (a : Act) (w : World), listed.size = ops.size → (listed.toList.filter (! ·)).length ≤ fuel → I listed a w → wpAny P .any ops Q fuel listed a w := by
  intro fuel
  induction fuel with
  | zero =>
    intro listed a w hs hf hI
    have hr : Region.ready .any ops listed = [] := by
      rw [List.eq_nil_iff_forall_not_mem]
      intro j hj
      rw [mem_ready] at hj
      obtain ⟨hfalse, o', ho', _⟩ := hj
      have hlt : j < ops.size := (Array.getElem?_eq_some_iff.1 ho').1
      have hlt' : j < listed.size := by omega
      have hm : false ∈ listed.toList.filter (! ·) := by
        rw [List.mem_filter]
        refine ⟨?_, rfl⟩
        have : listed[j] = false := by simpa [Array.getD, hlt'] using hfalse
        rw [← this]
        exact Array.getElem_mem_toList _
      have : (listed.toList.filter (! ·)) = [] := List.eq_nil_of_length_eq_zero (by omega)
      rw [this] at hm
      cases hm
    exact ⟨hr, hend listed a w hI hr⟩
  | succ fuel ih =>
    intro listed a w hs hf hI
    refine ⟨fun hr => hend listed a w hI hr, fun i hi => ?_⟩
    refine wpOp_mono (fun a' w' h => ih _ a' w' (by simpa using hs) ?_ h) (hstep listed a w i hI hi)
    rw [mem_ready] at hi
    obtain ⟨hfalse, o', ho', _⟩ := hi
    have hlt : i < ops.size := (Array.getElem?_eq_some_iff.1 ho').1
    have hlt' : i < listed.size := by omega
    have hget : listed.toList[i]'(by simpa using hlt') = false := by simpa [Array.getD, hlt'] using hfalse
    rw [Array.toList_setIfInBounds]
    have key : ∀ (l : List Bool) (i : Nat) (h : i < l.length), l[i] = false → ((l.set i true).filter (! ·)).length + 1 = (l.filter (! ·)).length := by
      intro l
      induction l with
      | nil => intro i h; simp at h
      | cons b l ih =>
        intro i h hb
        cases i with
        | zero => simp at hb; subst hb; simp
        | succ i =>
          simp at hb
          have := ih i (by simpa using h) hb
          cases b <;> simp [List.set_cons_succ] <;> omega
    have := key listed.toList i (by simpa using hlt') hget
    omega
end inv

/-- The slots that an operation looks at. -/
def looks (ops : List Oper) (o : Oper) : List Nat :=
  (o.op.operands.toList.filterMap fun | .tmp t => some t | _ => none) ++
  (match o.guard with
   | some (g, _) => (match ops[g]? with
     | some o' => o'.dst.toList
     | none => [])
   | none => [])

def memN : List Nat → Nat → Bool
  | [], _ => false
  | x :: l, t => bif Nat.beq t x then true else memN l t

def restr (E : Nat → SV) (l : List Nat) : Nat → SV := fun t => bif memN l t then E t else .undef

def gdw (g : Option Bool) (x : SV) : SV := match g with
  | none => x
  | some b => .gd b x
def gdp (g : Option Bool) (p : Prop) : Prop := match g with
  | none => p
  | some b => b = true → p

/-- A table of pure calls that is true. -/
def TabOk (P : Program) (tab : Tab) : Prop := ∀ f args r p, tab f args = some (r, p) → p → CallOk P f ∧ PCall P f args r

/-- An operation that changes no memory of ours: reckoned, or a call whose answer is told. -/
def stepV (_P : Program) (T : Lays) (orc : Tab) (H : Nat → Option ABlk) (_i : Nat) (E : Nat → SV) (o : Oper) (g : Option Bool) : Option (SV × Prop) :=
  match evalV T H E o.op with
  | some (x, vc) => force x fun x => some (gdw g x, gdp g vc)
  | none => match o.op with
    | .call c => match callOf E c with
      | some (f, cvs, p) => match orc f cvs with
        | some (r, q) => bif cvs.all immCV && immSV r then some (gdw g r, gdp g (p ∧ q)) else none
        | none => none
      | none => none
    | _ => none

def drawOps (P : Program) (T : Lays) (orc : Tab) (ops : List Oper) (n : Nat) (H : Nat → Option ABlk) : Nat → (Nat → SV) → List Oper → Option (List (Option Nat × SV) × (Nat → SV) × Prop)
  | _, E, [] => some ([], E, True)
  | i, E, o :: rest => match guardOf ops (restr E (looks ops o)) o.guard with
    | none => none
    | some g => bif dstOk o.dst n then match stepV P T orc H i (restr E (looks ops o)) o g with
      | none => none
      | some (x, vc) => match drawOps P T orc ops n H (i + 1) (putE E o.dst x) rest with
        | none => none
        | some (tr, Ef, p) => some ((o.dst, x) :: tr, Ef, vc ∧ p)
      else none

section step
variable {K : Nat} {P : Program} {T : Lays} {w : World} {μ : Nat → Option Nat} {a : Act} {S : St}

theorem restr_le (E : Nat → SV) (l : List Nat) : Le { S with env := E } { S with env := restr E l } := by
  refine ⟨rfl, fun t => ?_, fun k => .inr rfl, Nat.le_refl _⟩
  show restr E l t = _ ∨ restr E l t = _
  unfold restr
  cases memN l t
  · exact .inl rfl
  · exact .inr rfl

theorem stepV_sound (G : Good P T) {orc : Tab} (hTab : TabOk P orc) {C : Ctx K} {ops : Array Oper} {Q : Exit → Act → World → Prop} {E : Nat → SV} {i k : Nat} {o : Oper} {g : Option Bool} {x : SV} {vc : Prop} {l : List Nat}
    (hi : ops[i]? = some o) (hall : (ops.toList.all fun o => dstOk o.dst S.size) = true) (hR : Rel C μ { S with env := E } a w) (hg : guardOf ops.toList (restr E l) o.guard = some g) (hd : dstOk o.dst S.size = true)
    (h : stepV P T orc S.heap k (restr E l) o g = some (x, vc)) (hv : vc) {K : Act → World → Prop} (hK : ∀ v w', Rel C μ { S with env := putE E o.dst x } (a.put o.dst v) w' → K (a.put o.dst v) w') : wpOp P ops Q i K a w := by
  have hR' := (restr_le (S := S) E l).rel hR
  have hall' : ∀ (j : Nat) o', ops[j]? = some o' → dstOk o'.dst S.size = true := by
    intro j o' hj
    rw [List.all_eq_true] at hall
    exact hall o' (List.mem_of_getElem? (show ops.toList[j]? = some o' by simpa using hj))
  have hw := guardOf_sound hR'.env hg hR'.size hall'
  unfold wpOp
  rw [hi]
  simp only
  -- what is to be shown of a wanted operation
  have key : ∀ (y : SV) (p : Prop), (evalV T S.heap (restr E l) o.op = some (y, p) ∨ ∃ c f r cvs q q2, o.op = .call c ∧ callOf (restr E l) c = some (f, cvs, q) ∧ cvs.all immCV = true ∧ immSV r = true ∧ y = r ∧ p = (q ∧ q2) ∧ orc f cvs = some (r, q2)) → p →
      (∀ v w', Rel C μ { S with env := E } a w' → SRel w' (Own C.F S.heap μ) μ y v → K (a.put o.dst v) w') → o.wp P a w K Q := by
    intro y p hc hp hK'
    rcases hc with hc | ⟨c, f, r, cvs, q, q2, ho, hl, h1, h2, rfl, rfl, horc⟩
    · obtain ⟨v, hrun, hs⟩ := evalV_sound G.lay G.zero G.fields G.more hR'.heap hR'.env hc hp
      unfold Oper.wp
      rw [hrun]
      exact hK' v w hR hs
    · obtain ⟨hok, hcall⟩ := hTab _ _ _ _ horc hp.2
      obtain ⟨vals, hA0, hrun⟩ := callOf_sound hR'.env hl hp.1 hok ho
      have hA := immT_rel (μ' := noneμ) h1 hA0
      unfold Oper.wp
      rw [hrun]
      refine (hcall _ w _ (own_lt hR') hA).mono ?_
      rintro e w' ⟨v, rfl, hext, hs⟩
      obtain ⟨hR2, hs2⟩ := pcall_step hR hext hs h2
      exact hK' v w' hR2 hs2
  -- the two shapes of a step
  have shape : ∃ y p, x = gdw g y ∧ vc = gdp g p ∧ (evalV T S.heap (restr E l) o.op = some (y, p) ∨ ∃ c f r cvs q q2, o.op = .call c ∧ callOf (restr E l) c = some (f, cvs, q) ∧ cvs.all immCV = true ∧ immSV r = true ∧ y = r ∧ p = (q ∧ q2) ∧ orc f cvs = some (r, q2)) := by
    unfold stepV at h
    split at h
    · rename_i y p hV
      rw [force_eq] at h
      simp only [Option.some.injEq, Prod.mk.injEq] at h
      exact ⟨y, p, h.1.symm, h.2.symm, .inl hV⟩
    · split at h
      · rename_i c ho
        split at h
        · rename_i f cvs q hl
          split at h
          · rename_i r q2 horc
            cases hb : (cvs.all immCV && immSV r) with
            | false => rw [hb] at h; simp at h
            | true =>
              rw [hb] at h
              simp only [cond_true, Option.some.injEq, Prod.mk.injEq] at h
              rw [Bool.and_eq_true] at hb
              exact ⟨r, _, h.1.symm, h.2.symm, .inr ⟨c, f, r, cvs, q, q2, ho, hl, hb.1, hb.2, rfl, rfl, horc⟩⟩
          · cases h
        · cases h
      · cases h
  obtain ⟨y, p, rfl, rfl, hc⟩ := shape
  cases g with
  | none =>
    rw [if_pos (by rw [hw]; rfl)]
    exact .inl (key y p hc hv fun v w' h1 h2 => hK v w' (h1.put h2 hd))
  | some b =>
    cases b with
    | true =>
      rw [if_pos (by rw [hw]; rfl)]
      exact .inl (key y p hc (hv rfl) fun v w' h1 h2 => hK v w' (h1.put (x := .gd true y) (by unfold SRel; simpa using h2) hd))
    | false =>
      rw [if_neg (by rw [hw]; simp)]
      exact hK _ w (hR.put (x := .gd false y) (by unfold SRel; simp) hd)
end step

/-- What the last operation that was done left in a slot. -/
def valD (D : Nat → Bool) : Nat → List (Option Nat × SV) → Nat → Option SV
  | _, [], _ => none
  | k, (d, x) :: l, t => match valD D (k + 1) l t with
    | some y => some y
    | none => if D k = true ∧ d = some t then some x else none

def envD (D : Nat → Bool) (tr : List (Option Nat × SV)) (E : Nat → SV) : Nat → SV := fun t => (valD D 0 tr t).getD (E t)

theorem valD_congr {D D' : Nat → Bool} {t : Nat} : ∀ (l : List (Option Nat × SV)) (k : Nat), (∀ j d x, l[j]? = some (d, x) → d = some t → D (k + j) = D' (k + j)) → valD D k l t = valD D' k l t
  | [], _, _ => rfl
  | (d, x) :: l, k, h => by
    have ih := valD_congr (D := D) (D' := D') (t := t) l (k + 1) fun j d' x' hj hd => by
      have := h (j + 1) d' x' hj hd
      rwa [show k + (j + 1) = k + 1 + j from by omega] at this
    simp only [valD, ih]
    by_cases hd : d = some t
    · have := h 0 d x rfl hd
      simp only [Nat.add_zero] at this
      rw [this]
    · simp [hd]

/-- One more done, behind which nothing was done to its slot. -/
theorem valD_add {D D' : Nat → Bool} {i : Nat} {di : Option Nat} {xi : SV} (hadd : ∀ j, D' j = (D j || j == i)) : ∀ (l : List (Option Nat × SV)) (k : Nat), k ≤ i → l[i - k]? = some (di, xi) →
    (∀ j d x, l[j]? = some (d, x) → i < k + j → d = di → d ≠ none → D (k + j) = false) → ∀ t, (valD D' k l t) = if di = some t then some xi else valD D k l t
  | [], k, _, hi, _, _ => by simp at hi
  | (d, x) :: l, k, hk, hi, hl, t => by
    rcases Nat.lt_or_ge k i with h | h
    · have hi' : l[i - (k + 1)]? = some (di, xi) := by
        have e : i - k = (i - (k + 1)) + 1 := by omega
        rw [e] at hi
        simpa using hi
      have ih := valD_add hadd l (k + 1) h hi' (fun j d' x' hj hlt hd hn => by
        have := hl (j + 1) d' x' hj (by omega) hd hn
        rwa [show k + (j + 1) = k + 1 + j from by omega] at this) t
      simp only [valD, ih]
      have hk' : D' k = D k := by rw [hadd]; have : (k == i) = false := by simp; omega
                                  rw [this]; simp
      by_cases ht : di = some t
      · simp [ht]
      · simp only [if_neg ht, hk']
    · have hik : k = i := by omega
      subst hik
      simp at hi
      obtain ⟨rfl, rfl⟩ := hi
      simp only [valD]
      have hD' : D' k = true := by rw [hadd]; simp
      by_cases ht : d = some t
      · have hnone : valD D' (k + 1) l t = none := by
          have : ∀ (l' : List (Option Nat × SV)) (k' : Nat), k < k' → (∀ j d' x', l'[j]? = some (d', x') → d' = some t → D (k' + j) = false) → valD D' k' l' t = none := by
            intro l'
            induction l' with
            | nil => intro k' _ _; rfl
            | cons q l' ih =>
              intro k' hk' hq
              obtain ⟨d', x'⟩ := q
              simp only [valD]
              rw [ih (k' + 1) (by omega) fun j d2 x2 hj hd => by
                have := hq (j + 1) d2 x2 hj hd
                rwa [show k' + (j + 1) = k' + 1 + j from by omega] at this]
              by_cases hd : d' = some t
              · have := hq 0 d' x' rfl hd
                simp only [Nat.add_zero] at this
                have h2 : D' k' = false := by rw [hadd, this]; simp; omega
                simp [h2]
              · simp [hd]
          exact this l (k + 1) (by omega) fun j d' x' hj hd => by
            have := hl (j + 1) d' x' hj (by omega) (hd.trans ht.symm) (by rw [hd]; simp)
            rwa [show k + (j + 1) = k + 1 + j from by omega] at this
        rw [hnone]
        simp [hD', ht]
      · have hsame : valD D' (k + 1) l t = valD D (k + 1) l t := by
          refine valD_congr l (k + 1) fun j d' x' hj hd => ?_
          rw [hadd]
          have : ((k + 1 + j) == k) = false := by simp; omega
          rw [this]
          simp
        rw [hsame]
        simp [ht]

/-- Which operations are ahead of which, by the edges that bind. -/
inductive Reach (ops : Array Oper) : Nat → Nat → Prop where
  | one {j : Nat} {o : Oper} {e : Edge} : ops[j]? = some o → e ∈ o.after → Region.binds .any e = true → Reach ops j e.on
  | more {j : Nat} {o : Oper} {e : Edge} {i : Nat} : ops[j]? = some o → e ∈ o.after → Region.binds .any e = true → Reach ops e.on i → Reach ops j i

def edgesOk (ops : List Oper) : Nat → List Oper → Bool
  | _, [] => true
  | j, o :: rest => (o.after.toList.all fun e => !(Region.binds .any e) || Nat.blt e.on j) && edgesOk ops (j + 1) rest

def cloOf (acc : List Nat) (o : Oper) : Nat := o.after.toList.foldl (fun s e => bif Region.binds .any e then s ||| 2 ^ e.on ||| acc.getD e.on 0 else s) 0

/-- The bits of those ahead, of each. -/
def clo : List Nat → List Oper → List Nat
  | acc, [] => acc
  | acc, o :: rest => clo (acc ++ [cloOf acc o]) rest

/-- Two operations that touch one slot. -/
def touch (ops : List Oper) (x y : Oper) : Bool :=
  (match x.dst with
   | some d => memN (looks ops y) d || (match y.dst with | some d' => Nat.beq d' d | none => false)
   | none => false) ||
  (match y.dst with
   | some d => memN (looks ops x) d
   | none => false)

def pairsOk (ops : List Oper) (c : List Nat) : Nat → List Oper → Bool
  | _, [] => true
  | j, o :: rest => ((List.range j).all fun i => match ops[i]? with
      | some x => !(touch ops x o) || (c.getD j 0).testBit i
      | none => true) && pairsOk ops c (j + 1) rest

/-- Operations that touch one slot are bound to an order: that of the text. -/
def ordOk (ops : List Oper) : Bool := edgesOk ops 0 ops && pairsOk ops (clo [] ops) 0 ops

theorem edgesOk_get {ops : List Oper} : ∀ (l : List Oper) (k : Nat), edgesOk ops k l = true → ∀ j o, l[j]? = some o → ∀ e ∈ o.after, Region.binds .any e = true → e.on < k + j
  | [], _, _, j, o, h => by simp at h
  | o' :: l, k, h, j, o, hj => by
    simp only [edgesOk, Bool.and_eq_true] at h
    cases j with
    | zero =>
      simp at hj
      subst hj
      intro e he hb
      have := List.all_eq_true.1 h.1 e (by simpa using he)
      rw [hb] at this
      have this : Nat.blt e.on k = true := by simpa using this
      have : e.on < k := Nat.le_of_ble_eq_true this
      omega
    | succ j =>
      intro e he hb
      have := edgesOk_get l (k + 1) h.2 j o (by simpa using hj) e he hb
      omega

theorem foldl_bits {ops : Array Oper} {acc : List Nat} {j : Nat} {o : Oper} (ho : ops[j]? = some o) (hacc : ∀ k i, (acc.getD k 0).testBit i = true → Reach ops k i) : ∀ (l : List Edge) (s : Nat), (∀ e ∈ l, e ∈ o.after) → (∀ i, s.testBit i = true → Reach ops j i) →
    ∀ i, (l.foldl (fun s e => bif Region.binds .any e then s ||| 2 ^ e.on ||| acc.getD e.on 0 else s) s).testBit i = true → Reach ops j i
  | [], s, _, hs, i, h => hs i h
  | e :: l, s, hl, hs, i, h => by
    refine foldl_bits ho hacc l _ (fun e' he' => hl e' (List.mem_cons_of_mem _ he')) ?_ i h
    intro i' hi'
    cases hb : Region.binds .any e with
    | false => simp only [hb, cond_false] at hi'; exact hs i' hi'
    | true =>
      simp only [hb, cond_true, Nat.testBit_or, Bool.or_eq_true] at hi'
      rcases hi' with (h1 | h1) | h1
      · exact hs i' h1
      · have : e.on = i' := by simpa [Nat.testBit_two_pow] using h1
        subst this
        exact .one ho (hl e List.mem_cons_self) hb
      · exact .more ho (hl e List.mem_cons_self) hb (hacc _ _ h1)

theorem clo_reach {ops : Array Oper} : ∀ (l : List Oper) (acc : List Nat), (∀ j o, l[j]? = some o → ops[acc.length + j]? = some o) → (∀ k i, (acc.getD k 0).testBit i = true → Reach ops k i) → ∀ k i, ((clo acc l).getD k 0).testBit i = true → Reach ops k i
  | [], acc, _, h, k, i, hk => h k i hk
  | o :: l, acc, hl, h, k, i, hk => by
    refine clo_reach l (acc ++ [cloOf acc o]) (fun j o' hj => ?_) (fun k' i' hk' => ?_) k i hk
    · have := hl (j + 1) o' (by simpa using hj)
      rw [← this]
      congr 1
      simp
      omega
    · rw [List.getD_eq_getElem?_getD, List.getElem?_append] at hk'
      split at hk'
      · exact h k' i' (by rw [List.getD_eq_getElem?_getD]; exact hk')
      · rename_i hge
        rcases Nat.lt_or_ge k' (acc.length + 1) with h1 | h1
        · have e1 : k' = acc.length := by omega
          subst e1
          simp at hk'
          exact foldl_bits (hl 0 o rfl) h o.after.toList 0 (fun e he => by simpa using he) (fun i h0 => by simp at h0) i' hk'
        · rw [List.getElem?_eq_none (by simp; omega)] at hk'
          simp at hk'

theorem pairsOk_get {ops : List Oper} {c : List Nat} : ∀ (l : List Oper) (k : Nat), pairsOk ops c k l = true → ∀ j o, l[j]? = some o → ∀ i x, i < k + j → ops[i]? = some x → touch ops x o = true → (c.getD (k + j) 0).testBit i = true
  | [], _, _, j, o, h => by simp at h
  | o' :: l, k, h, j, o, hj => by
    simp only [pairsOk, Bool.and_eq_true] at h
    cases j with
    | zero =>
      simp at hj
      subst hj
      intro i x hi hx ht
      have := List.all_eq_true.1 h.1 i (by simpa using hi)
      rw [hx] at this
      simp only [ht] at this
      simpa using this
    | succ j =>
      intro i x hi hx ht
      have := pairsOk_get l (k + 1) h.2 j o (by simpa using hj) i x (by omega) hx ht
      rwa [show k + 1 + j = k + (j + 1) from by omega] at this
end Go.Proofs.Ytndfcbcmeeemfaa.Abs
