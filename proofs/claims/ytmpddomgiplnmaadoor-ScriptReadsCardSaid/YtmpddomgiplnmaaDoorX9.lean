/-
  A RANGE OVER A FUNCTION: what an iterator promises, and the rule for the loop.
-/
import Derived.Test.YtmpddomgiplnmaaDoorX8
import Derived.RangeFuncNested
namespace Go.Proofs.YtmpddomgiplnmaaDoor.Abs
open Go

/-- Memory that only grew. -/
abbrev Grow (A B : World) : Prop := Ext (fun _ => True) A (fun _ => False) noneμ B (fun _ => False) noneμ

theorem Ext.weakF {F F' O O' : Nat → Prop} {w w' : World} {μ μ' : Nat → Option Nat} (h : Ext F w O μ w' O' μ') (hF : ∀ m, m < w.heap.size → F' m → F m) : Ext F' w O μ w' O' μ' :=
  ⟨h.os, h.tape, h.output, h.size, h.keep, h.shape, h.mu, h.owned, fun b hb hq => h.frn b hb (hF b hb hq), h.frz, h.drawn⟩
theorem Ext.noμ {F O O' : Nat → Prop} {w w' : World} {μ μ' : Nat → Option Nat} (h : Ext F w O μ w' O' μ') : Ext F w O noneμ w' O' noneμ :=
  ⟨h.os, h.tape, h.output, h.size, h.keep, h.shape, (fun _ _ q => by cases q), h.owned, h.frn, h.frz, h.drawn⟩
theorem Ext.toO {F O O' O2 : Nat → Prop} {w w' : World} {μ μ' : Nat → Option Nat} (h : Ext F w O μ w' O' μ') (hO : ∀ m, O2 m → O' m) : Ext F w O μ w' O2 μ' :=
  ⟨h.os, h.tape, h.output, h.size, h.keep, h.shape, h.mu, fun m hm => h.owned m (hO m hm), h.frn, h.frz, h.drawn⟩
theorem Grow.ext {A B : World} (h : Grow A B) (F O : Nat → Prop) (μ : Nat → Option Nat) : Ext F A O μ B O μ :=
  ⟨h.os, h.tape, h.output, h.size, fun b hb _ => h.frn b hb trivial, h.shape, fun _ _ h => h, fun _ h => .inl h, fun b hb _ => h.frn b hb trivial, h.frz, h.drawn⟩
theorem Grow.refl (A : World) : Grow A A := Ext.refl _ _ _ _
theorem Grow.get {A B : World} (h : Grow A B) {b : Nat} {o : Obj} (hb : A.heap[b]? = some o) : B.heap[b]? = some o := (h.frn b (lt_of_get hb) trivial).trans hb
theorem Grow.alloc (w : World) (o : Obj) : Grow w (w.alloc o) := by
  have hk : ∀ b, b < w.heap.size → (w.alloc o).heap[b]? = w.heap[b]? := fun b hb => by
    show (w.heap.push o)[b]? = _
    rw [Array.getElem?_push, if_neg (by omega)]
  refine ⟨rfl, rfl, rfl, by rw [World.size_alloc]; exact Nat.le_succ _, fun b hb _ => hk b hb, fun b cur ty fz hb => ⟨cur, (hk b (lt_of_get hb)).trans hb, rfl⟩, fun _ _ h => h, fun _ h => .inl h, fun b hb _ => hk b hb, fun a ha => ?_, Nat.le_refl _⟩
  unfold World.frozen?
  rw [hk _ ha]
theorem Grow.drew (w : World) : Grow w w.drew :=
  ⟨rfl, rfl, rfl, Nat.le_refl _, fun _ _ _ => rfl, fun _ cur _ _ h => ⟨cur, h, rfl⟩, fun _ _ h => h, fun _ h => .inl h, fun _ _ _ => rfl, fun _ _ => rfl, Nat.le_succ _⟩

/-- What an iterator promises, with what it has captured, in a world (O: the blocks that the loop's body may write): it hands on N times, xs 0, xs 1, ..; it stops when no more are wanted. -/
def Iter (P : Program) (gf : FuncId) (lb : List Value) (w : World) (O : Nat → Prop) (N : Nat) (xs : Nat → List CV) : Prop :=
  ∀ (l : Nat) (J Jx : Nat → (Nat → Prop) → World → Prop),
    (∀ i Oi A B, J i Oi A → Grow A B → J i Oi B) → (∀ i Oi A B, Jx i Oi A → Grow A B → Jx i Oi B) →
    (∀ i Oi A, J i Oi A → ∀ m, Oi m → m < A.heap.size) →
    (∀ i Oi W vs nn, i < N → J i Oi W → TRel W Oi noneμ (xs i) vs → YieldAt Fence.wide nn P l vs.toArray W fun e W' =>
      ∃ O', Ext (fun _ => False) W Oi noneμ W' O' noneμ ∧ ((e = .returned (.bool true) ∧ J (i + 1) O' W') ∨ (e = .returned (.bool false) ∧ Jx (i + 1) O' W'))) →
    J 0 O w →
    Calls P gf (#[.func (.yield l) #[] #[]] ++ lb.toArray) w fun e W' => (∃ v, e = .returned v) ∧ ∃ O', J N O' W' ∨ ∃ i, i ≤ N ∧ Jx i O' W'
def IterOk (P : Program) (gf : FuncId) (nc : Nat) (caps : Nat → AV) (N : Nat) (xs : Nat → List CV) : Prop :=
  ∀ (w : World) (O : Nat → Prop) (lb : List Value), (∀ m, O m → m < w.heap.size) → lb.length = nc → (∀ i u, lb[i]? = some u → ARel w O noneμ (caps i) u) → Iter P gf lb w O N xs

def putPs (E : Nat → SV) : List Nat → List CV → Nat → SV
  | p :: ps, c :: cs => putPs (putE1 E p (.cv c)) ps cs
  | _, _ => E

theorem params_rel {w : World} {O : Nat → Prop} {μ : Nat → Option Nat} : ∀ (ps : List Nat) (cs : List CV) (vs : List Value) (E : Nat → SV) (t : Array Value) (d : List Deferred),
    ERel w O μ E { tmps := t, defers := d } → TRel w O μ cs vs → cs.length = ps.length → (∀ p ∈ ps, p < t.size) →
    ERel w O μ (putPs E ps cs) { tmps := (ps.zip vs).foldl (fun t (p, v) => t.setIfInBounds p v) t, defers := d } ∧ ((ps.zip vs).foldl (fun t (p, v) => t.setIfInBounds p v) t).size = t.size
  | [], [], [], _, _, _, hE, _, _, _ => ⟨hE, rfl⟩
  | [], [], _ :: _, _, _, _, _, h, _, _ => by have := h.1; simp at this
  | _ :: _, _ :: _, [], _, _, _, _, h, _, _ => by have := h.1; simp at this
  | [], _ :: _, _, _, _, _, _, _, h, _ => by simp at h
  | _ :: _, [], _, _, _, _, _, _, h, _ => by simp at h
  | p :: ps, c :: cs, v :: vs, E, t, d, hE, hT, hl, hp => by
    have h1 : CRel w O μ c v := hT.2 0 c v rfl rfl
    have h2 : TRel w O μ cs vs := ⟨by have := hT.1; simp at this; exact this, fun i x u hx hu => hT.2 (i + 1) x u (by simpa using hx) (by simpa using hu)⟩
    have hE' : ERel w O μ (putE1 E p (.cv c)) { tmps := t.setIfInBounds p v, defers := d } := by
      intro q
      unfold putE1
      have hpt := hp p (by simp)
      cases hb : Nat.beq q p with
      | true =>
        obtain rfl := Nat.eq_of_beq_eq_true hb
        simp only [cond_true]
        show SRel w O μ (.cv c) ((t.setIfInBounds q v).getD q Go.undef)
        rw [show (t.setIfInBounds q v).getD q Go.undef = v by simp [Array.getD_eq_getD_getElem?, hpt]]
        exact h1
      | false =>
        simp only [cond_false]
        have hne : p ≠ q := fun e => by subst e; simp at hb
        show SRel w O μ (E q) ((t.setIfInBounds p v).getD q Go.undef)
        rw [show (t.setIfInBounds p v).getD q Go.undef = t.getD q Go.undef by simp [Array.getD_eq_getD_getElem?, hne]]
        exact hE q
    obtain ⟨g1, g2⟩ := params_rel ps cs vs _ (t.setIfInBounds p v) d hE' h2 (by simpa using hl) (fun q hq => by simpa using hp q (by simp [hq]))
    exact ⟨g1, by simpa using g2⟩

section
variable {K : Nat} {P : Program} {T : Lays} {S : St} {Q : Exit → St → Prop}

theorem wpIn_n {ro : Option Nat} {n m : Nat} {c : Code} {Q : Exit → Act → World → Prop} {a : Act} {w : World} (h : c.wpIn (wr ro) n P Q a w) : c.wpIn (wr ro) m P Q a w :=
  fun b k cs hro hb _ => h b k cs hro hb (fun d hd => by cases hd)

theorem LeR.own {L : List Nat} {S S' : St} {F : Nat → Prop} {μ : Nat → Option Nat} (h : LeR K L S S') : ∀ m, Own F S'.heap (fun k => μ (rho L S.next k)) m → Own F S.heap μ m := by
  rintro m (hF | ⟨k, hk, hm⟩)
  · exact .inl hF
  · obtain ⟨B, hB⟩ := Option.isSome_iff_exists.1 hk
    obtain ⟨_, B0, h2, _⟩ := h.heap k B hB
    exact .inr ⟨_, by rw [h2]; rfl, hm⟩

theorem Turn.extF {F O : Nat → Prop} {n0 : Nat} {w w2 : World} {μ : Nat → Option Nat} (h : Turn F n0 w w2) (hO : ∀ m, F m → O m) : Ext (fun m => F m ∧ m < n0) w O μ w2 O μ := by
  have h0 := h.ext0 (μ := μ) hO
  refine ⟨h0.os, h0.tape, h0.output, h0.size, h0.keep, h0.shape, h0.mu, h0.owned, fun b hb hF => ?_, h0.frz, h0.drawn⟩
  rcases h.blk b with e | ⟨_, e2, _⟩
  · exact e
  · have := hF.2; omega

/-- What a round's assignments leave: the body goes on. -/
def assignQ (n0 : Nat) (P : Program) (body : Code) (Q : Exit → St → Prop) : Exit → St → Prop
  | .normal, S => AW n0 P body Q S
  | _, _ => False

/-- How a round may end: the slots are those of the loop's start again. -/
def rangeQ (K : Nat) (n : Nat) (E0 : Nat → SV) (st : St) (Q : Exit → St → Prop) : Exit → St → Prop
  | .normal, S => ∃ (_ : Unit) (L : List Nat), LeR K L ⟨n, E0, S.heap, S.next⟩ st
  | .exit id, S => Q (.exit id) ⟨n, E0, S.heap, S.next⟩
  | .ret, S => Q .ret ⟨n, E0, S.heap, S.next⟩
  | _, _ => False

theorem Rel.grow {C : Ctx K} {μ : Nat → Option Nat} {a : Act} {A B : World} (hR : Rel C μ S a A) (h : Grow A B) : Rel C μ S a B := by
  have he := h.ext C.F (Own C.F S.heap μ) μ
  refine ⟨hR.defers.mono he, hR.size, hR.env.mono he, ⟨fun k B hk => ?_, hR.heap.inj, fun k m hm => ?_, hR.heap.dis, fun m hm => Nat.lt_of_lt_of_le (hR.heap.frn m hm) h.size⟩, hR.ext.trans he⟩
  · obtain ⟨h1, h2⟩ := hR.heap.blk k B hk
    exact ⟨h1, h2.mono he rfl fun m hm => h.frn m (hR.heap.lt k m hm).2 trivial⟩
  · have := hR.heap.lt k m hm
    exact ⟨this.1, Nat.lt_of_lt_of_le this.2 h.size⟩

/-- ONE ROUND. -/
theorem round_core {C1 : Ctx K} {μ1 : Nat → Option Nat} {n nx nn l : Nat} {E0 : Nat → SV} {Hi : Nat → Option ABlk} {a1 : Act} {W : World} {st : St} {ps : List Nat} {xs : List CV} {vs : List Value} {assign body : Code} {rec : LoopState → Option Code → Loop} {R : Ending → World → Prop}
    (hR : Rel C1 μ1 ⟨n, E0, Hi, nx⟩ a1 W) (hl : W.heap[l]? = some (.loop (rec .ready none))) (hrd : ∀ s p, (rec s p).state = s) (hrp : ∀ s p s' p', { rec s p with state := s', pending := p' } = rec s' p') (hF : C1.F l) (hl0 : C1.w0.heap.size ≤ l) (hRl : ∀ l', C1.ro = some l' → l' ≠ l)
    (hT : TRel W (Own C1.F Hi μ1) noneμ xs vs) (hxl : xs.length = ps.length) (hxi : xs.all immCV = true) (hps : ∀ p ∈ ps, p < n)
    (round : AW nx P assign (assignQ nx P body (rangeQ K n E0 st Q)) ⟨n, putPs E0 ps xs, Hi, nx⟩)
    (hfin : ∀ (jump : Option Code) (e : Exit) (S5 : St) (μ5 : Nat → Option Nat) (W6 : World), Rel C1 μ5 ⟨n, E0, S5.heap, S5.next⟩ a1 W6 → W6.heap[l]? = some (.loop (rec (if jump.isNone then .ready else .done) jump)) → Ext (fun _ => False) W (Own C1.F Hi μ1) noneμ W6 (Own C1.F S5.heap μ5) noneμ →
      ((jump = none ∧ e = .normal) ∨ (jump = some .ret ∧ e = .ret) ∨ ∃ id, jump = some (.exit id) ∧ e = .exit id) → rangeQ K n E0 st Q e S5 → R (.returned (.bool jump.isNone)) W6) :
    assign.wpIn (wr (some l)) nn P (Exit.then (fun a₁ w₁ => ∃ w₂, (Instr.beginRound l).run P w₁ = .ok () w₂ ∧ body.wpIn (wr (some l)) nn P (roundPost P l R) a₁ w₂) (fun _ _ _ => False))
      { tmps := (ps.zip vs).foldl (fun t (p, v) => t.setIfInBounds p v) a1.tmps, defers := [] } W := by
  have hlW : l < W.heap.size := lt_of_get hl
  obtain ⟨hE1, hsz1⟩ := params_rel (μ := μ1) ps xs vs E0 a1.tmps [] (fun t => hR.env t) (immT_rel hxi hT) hxl (fun p hp => by rw [hR.size]; exact hps p hp)
  have hR2 : Rel (⟨C1.F, W, Own C1.F Hi μ1, μ1, fun k m h => (hR.heap.lt k m h).1, some l, hR.gok⟩ : Ctx nx) μ1 ⟨n, putPs E0 ps xs, Hi, nx⟩ { tmps := (ps.zip vs).foldl (fun t (p, v) => t.setIfInBounds p v) a1.tmps, defers := [] } W :=
    ⟨⟨fun x hx => by simp at hx, by simp, fun l' e => by cases e; exact ⟨rfl, hF, _, hl⟩⟩, hsz1.trans hR.size, hE1, hR.heap, Ext.refl _ _ _ _⟩
  refine wpIn_mono (wpIn_n (round _ _ _ _ hR2)) ?_
  rintro e a3 W3 ⟨C3, hC3, μ3, S3, hR3, hq3⟩
  cases e with
  | normal =>
    have hF3 : ∀ m, C1.F m → C3.F m := hC3.F
    have x3 := hR3.ext
    rw [hC3.w0, hC3.O0, hC3.μ0] at x3
    dsimp only at x3
    have hl3 : W3.heap[l]? = some (.loop (rec .ready none)) := (x3.frn l hlW (hF3 l hF)).trans hl
    have hb := run_beginRound (P := P) hl3 (hrd _ _)
    rw [show { rec .ready none with state := .busy } = rec .busy none from hrp _ _ _ none ▸ by rw [← hrp .ready none .busy none]] at hb
    refine ⟨_, hb, ?_⟩
    have t3 : Turn C3.F l W3 (W3.putObj l (.loop (rec .busy none))) := Turn.put (hF3 l hF) (Nat.le_refl _) hl3 rfl rfl
    have y3 := t3.extF (O := Own C3.F S3.heap μ3) (μ := μ3) fun m hm => .inl hm
    have hlb : (W3.putObj l (.loop (rec .busy none))).heap[l]? = some (.loop (rec .busy none)) := World.putObj_heap_same (lt_of_get hl3)
    generalize hW4 : W3.putObj l (.loop (rec .busy none)) = W4 at t3 y3 hlb ⊢
    have hg4 : gOk W4 (Own C3.F S3.heap μ3) := hR3.gok.mono (t3.ext0 (μ := μ3) (O := Own C3.F S3.heap μ3) fun m hm => .inl hm)
    have hR4 : Rel (⟨C3.F, W4, Own C3.F S3.heap μ3, μ1, fun k m h => (hR.heap.lt k m h).1, some l, hg4⟩ : Ctx nx) μ3 S3 { a3 with defers := [] } W4 := by
      have he := t3.ext0 (μ := μ3) (O := Own C3.F S3.heap μ3) fun m hm => .inl hm
      refine ⟨⟨fun x hx => by simp at hx, by simp, fun l' e => by cases e; exact ⟨rfl, hF3 l hF, _, hlb⟩⟩, hR3.size, fun t => (hR3.env t).mono he, ⟨fun k B hk => ?_, hR3.heap.inj, fun k m hm => ?_, hR3.heap.dis, fun m hm => ?_⟩, ?_⟩
      · obtain ⟨h1, h2⟩ := hR3.heap.blk k B hk
        refine ⟨h1, h2.mono he rfl fun m hm => ?_⟩
        rcases t3.blk m with e | ⟨e1, _⟩
        · exact e
        · exact absurd e1 (hR3.heap.dis k m (by rw [hk]; rfl) hm)
      · rw [t3.size]; exact hR3.heap.lt k m hm
      · rw [t3.size]; exact hR3.heap.frn m hm
      · have := Ext.refl C3.F W4 (Own C3.F S3.heap μ3) μ3
        exact ⟨this.os, this.tape, this.output, this.size, this.keep, this.shape, x3.mu, this.owned, this.frn, this.frz, this.drawn⟩
    have hd3 : ({ a3 with defers := [] } : Act) = a3 := by
      obtain ⟨h0, _⟩ := hR3.defers.2.2 l (by rw [hC3.ro])
      cases a3
      simp at h0
      subst h0
      rfl
    rw [hd3] at hR4
    refine wpIn_mono (wpIn_n (hq3 _ _ _ _ hR4)) ?_
    rintro e a5 W5 ⟨C5, hC5, μ5, S5, hR5, hq5⟩
    have hF5 : ∀ m, C3.F m → C5.F m := hC5.F
    have x5 := hR5.ext
    rw [hC5.w0, hC5.O0, hC5.μ0] at x5
    dsimp only at x5
    have hl5 : W5.heap[l]? = some (.loop (rec .busy none)) := (x5.frn l (lt_of_get hlb) (hF5 l (hF3 l hF))).trans hlb
    -- the round's end
    have fin : ∀ (jump : Option Code), ((jump = none ∧ e = .normal) ∨ (jump = some .ret ∧ e = .ret) ∨ ∃ id, jump = some (.exit id) ∧ e = .exit id) → ∃ v w', (Instr.endRound l jump).run P W5 = .ok v w' ∧ R (.returned v) w' := by
      intro jump hje
      have hen := run_endRound (P := P) jump hl5
      rw [hrp] at hen
      refine ⟨_, _, hen, ?_⟩
      have t5 : Turn C5.F l W5 (W5.putObj l (.loop (rec (if jump.isNone then .ready else .done) jump))) := Turn.put (hF5 l (hF3 l hF)) (Nat.le_refl _) hl5 rfl rfl
      have hl6 : (W5.putObj l (.loop (rec (if jump.isNone then .ready else .done) jump))).heap[l]? = some (.loop (rec (if jump.isNone then .ready else .done) jump)) := World.putObj_heap_same (lt_of_get hl5)
      have y5 := t5.extF (O := Own C5.F S5.heap μ5) (μ := μ5) fun m hm => .inl hm
      have hb5 : ∀ m, m ≠ l → (W5.putObj l (.loop (rec (if jump.isNone then .ready else .done) jump))).heap[m]? = W5.heap[m]? := fun m hm => World.putObj_heap_other hm
      have hb3 : ∀ m, m ≠ l → W4.heap[m]? = W3.heap[m]? := fun m hm => by rw [← hW4]; exact World.putObj_heap_other hm
      generalize W5.putObj l (.loop (rec (if jump.isNone then .ready else .done) jump)) = W6 at t5 hl6 y5 hb5
      -- from the round's start to its end
      have z1 : Ext (fun m => C1.F m ∧ m < l) W (Own C1.F Hi μ1) μ1 W3 (Own C3.F S3.heap μ3) μ1 := ⟨x3.os, x3.tape, x3.output, x3.size, x3.keep, x3.shape, fun _ _ h => h, x3.owned, fun b hb hq => x3.frn b hb (hF3 b hq.1), x3.frz, x3.drawn⟩
      have z2 : Ext (fun m => C1.F m ∧ m < l) W3 (Own C3.F S3.heap μ3) μ1 W4 (Own C3.F S3.heap μ3) μ1 := ⟨y3.os, y3.tape, y3.output, y3.size, y3.keep, y3.shape, fun _ _ h => h, y3.owned, fun b hb hq => y3.frn b hb ⟨hF3 b hq.1, hq.2⟩, y3.frz, y3.drawn⟩
      have z3 : Ext (fun m => C1.F m ∧ m < l) W4 (Own C3.F S3.heap μ3) μ1 W5 (Own C5.F S5.heap μ5) μ5 := x5.weakF fun m _ hq => hF5 m (hF3 m hq.1)
      have z4 : Ext (fun m => C1.F m ∧ m < l) W5 (Own C5.F S5.heap μ5) μ5 W6 (Own C5.F S5.heap μ5) μ5 := y5.weakF fun m _ hq => ⟨hF5 m (hF3 m hq.1), hq.2⟩
      have hsub : ∀ m, Own C1.F S5.heap μ5 m → Own C5.F S5.heap μ5 m := fun m hm => hm.imp (fun h => hF5 m (hF3 m h)) id
      have z : Ext (fun m => C1.F m ∧ m < l) W (Own C1.F Hi μ1) μ1 W6 (Own C1.F S5.heap μ5) μ5 := (((z1.trans z2).trans z3).trans z4).toO hsub
      have hsh : Ext (fun _ => False) W6 (Own C5.F S5.heap μ5) μ5 W6 (Own C1.F S5.heap μ5) μ5 := ext_sub hsub
      have hkeep : ∀ m, C1.F m → m ≠ l → m < W.heap.size → W6.heap[m]? = W.heap[m]? := fun m hm hne hlt => by
        rw [hb5 m hne, x5.frn m (Nat.lt_of_lt_of_le hlt (z1.trans z2).size) (hF5 m (hF3 m hm)), hb3 m hne, x3.frn m hlt (hF3 m hm)]
      refine hfin jump e S5 μ5 W6 ⟨⟨fun x hx => ?_, hR.defers.2.1, fun l' hl' => ?_⟩, hR.size, fun t => (hR.env t).mono z, ⟨fun k B hk => ?_, hR5.heap.inj, fun k m hm => ?_, fun k m hk hm hF => hR5.heap.dis k m hk hm (hF5 m (hF3 m hF)), fun m hm => ?_⟩, ?_⟩ hl6 (z.weakF fun _ _ h => h.elim).noμ hje hq5
      · obtain ⟨D, h1, h2, h3, h4⟩ := hR.defers.1 x hx
        refine ⟨D, h1, h2, h3, (hkeep D h2 (fun e => ?_) (lt_of_get h4)).trans h4⟩
        rw [e, hl] at h4
        cases h4
      · obtain ⟨g0, g1, r, g2⟩ := hR.defers.2.2 l' hl'
        exact ⟨g0, g1, r, (hkeep l' g1 (hRl l' hl') (lt_of_get g2)).trans g2⟩
      · obtain ⟨h1, h2⟩ := hR5.heap.blk k B hk
        refine ⟨h1, (h2.mono z4 rfl fun m hm => hb5 m fun e => ?_).mono hsh rfl fun _ _ => rfl⟩
        exact hR5.heap.dis k m (by rw [hk]; rfl) hm (by rw [e]; exact hF5 l (hF3 l hF))
      · rw [t5.size]; exact hR5.heap.lt k m hm
      · rw [t5.size]; exact hR5.heap.frn m (hF5 m (hF3 m hm))
      · have hx := (hR.ext.weakF (F' := fun m => C1.F m ∧ m < l) fun m _ h => h.1).trans z
        exact hx.weakF fun m hm h => ⟨h, by omega⟩
    cases e with
    | normal => exact fin none (.inl ⟨rfl, rfl⟩)
    | ret => exact fin (some .ret) (.inr (.inl ⟨rfl, rfl⟩))
    | exit id => exact fin (some (.exit id)) (.inr (.inr ⟨id, rfl, rfl⟩))
    | _ => exact hq5.elim
  | _ => exact hq3.elim

theorem AW_rangeX {n nx : Nat} {E : Nat → SV} {H : Nat → Option ABlk} {g : Operand} {ps : Array Tmp} {assign body : Code} {gf : FuncId} {first caps : Nat → AV} {nc : Nat}
    (hg : evS E g = .cv (.one (.fn (.func gf) 0 first nc caps))) (himm : immAV (.fn (.func gf) 0 first nc caps) = true) (eg : ∀ args w, (callFunc gf args).run P w = .ok (.enter gf args) w)
    (fs bs : List Nat) (l0 : List (Nat × SV)) (hp : Nat → List (Nat × ABlk)) (N : Nat) (xs : Nat → List CV) (hit : IterOk P gf nc caps N xs) (hxl : ∀ i, (xs i).length = ps.size) (hxi : ∀ i, (xs i).all immCV = true) (hps : (ps.toList.all fun p => Nat.blt p n) = true)
    (hE : allW E l0) (hH : allBW H (hp 0))
    (round : ∀ i, i < N → AW nx P assign (assignQ nx P body (rangeQ K n (envX E fs l0) ⟨n, envX E fs l0, heapX H bs (hp (i + 1)), nx⟩ Q)) ⟨n, putPs (envX E fs l0) ps.toList (xs i), heapX H bs (hp i), nx⟩)
    (done : Q .normal ⟨n, envX E fs l0, heapX H bs (hp N), nx⟩) : AW K P (.rangeFunc g ps assign body) Q ⟨n, E, H, nx⟩ := by
  intro C μ a w hR
  refine wpIn_rangeFunc fun fnn hfn => ?_
  have hv := evS_sound hR.env g
  rw [show (⟨n, E, H, nx⟩ : St).env = E from rfl, hg] at hv
  have hv : ARel w (Own C.F H μ) noneμ (.fn (.func gf) 0 first nc caps) (a.eval g) := immA_rel himm hv
  obtain ⟨rec, hrec⟩ : ∃ rec : Nat → LoopState → Option Code → Loop, rec = fun D st pe => { state := st, pending := pe, fn := fnn, tmps := a.tmps, params := ps, assign, body, defers := D } := ⟨_, rfl⟩
  have hwl : C.w0.heap.size ≤ w.heap.size := hR.ext.size
  -- the loop is entered
  have hent : ∃ (l D : Nat) (marks : List Deferred) (W1 : World), (Instr.enterLoop fnn a.tmps ps assign body (wr C.ro).round).run P w = .ok (l, marks) W1 ∧ Grow w W1 ∧ w.heap.size ≤ l ∧ W1.heap[l]? = some (.loop (rec D .ready none)) ∧
      (∀ x ∈ marks ++ a.defers, ∃ D, x = { target := .collected D, args := #[] } ∧ (C.F D ∨ (w.heap.size ≤ D ∧ D < W1.heap.size)) ∧ C.w0.heap.size ≤ D ∧ W1.heap[D]? = some (.deferred (some []))) ∧ ((marks ++ a.defers).Pairwise fun x y => x.target ≠ y.target) ∧ (C.ro ≠ none → marks ++ a.defers = []) := by
    obtain ⟨k1, k2, k3⟩ := hR.defers
    show ∃ (l D : Nat) (marks : List Deferred) (W1 : World), (Instr.enterLoop fnn a.tmps ps assign body C.ro).run P w = .ok (l, marks) W1 ∧ _
    cases hro : C.ro with
    | none =>
      have hgr : Grow w ((w.alloc (.deferred (some []))).alloc (.loop (rec w.heap.size .ready none))) := (Grow.alloc w _).trans (Grow.alloc _ _)
      refine ⟨w.heap.size + 1, w.heap.size, [{ target := .collected w.heap.size, args := #[] }], (w.alloc (.deferred (some []))).alloc (.loop (rec w.heap.size .ready none)), ?_, hgr, by omega, ?_, ?_, ?_, fun h => absurd rfl h⟩
      · rw [hrec]; exact run_enterLoop_outer _ _ _ _ _
      · have := World.alloc_heap_new (w.alloc (.deferred (some []))) (.loop (rec w.heap.size .ready none)); rwa [World.size_alloc] at this
      · intro x hx
        rw [List.singleton_append, List.mem_cons] at hx
        rcases hx with rfl | hx
        · exact ⟨_, rfl, .inr ⟨Nat.le_refl _, by rw [World.size_alloc, World.size_alloc]; omega⟩, hwl, (Grow.alloc _ _).get (World.alloc_heap_new w _)⟩
        · obtain ⟨D, h1, h2, h3, h4⟩ := k1 x hx
          exact ⟨D, h1, .inl h2, h3, hgr.get h4⟩
      · rw [List.singleton_append, List.pairwise_cons]
        refine ⟨fun x hx e => ?_, k2⟩
        obtain ⟨D, h1, _, _, h4⟩ := k1 x hx
        rw [h1] at e
        have := lt_of_get h4
        simp at e
        omega
    | some l₀ =>
      obtain ⟨hd0, hF0, r₀, hr₀⟩ := k3 l₀ hro
      have hgr : Grow w (w.alloc (.loop (rec r₀.defers .ready none))) := Grow.alloc w _
      refine ⟨w.heap.size, r₀.defers, [], w.alloc (.loop (rec r₀.defers .ready none)), ?_, hgr, Nat.le_refl _, World.alloc_heap_new w _, ?_, k2, fun _ => hd0⟩
      · rw [hrec]; exact run_enterLoop_inner hr₀ _ _ _ _ _
      · intro x hx
        obtain ⟨D, h1, h2, h3, h4⟩ := k1 x hx
        exact ⟨D, h1, .inl h2, h3, hgr.get h4⟩
  obtain ⟨l, D, marks, W1, hrun, hgr, hwl1, hl1, hm1, hm2, hm0⟩ := hent
  obtain ⟨C1, hC1e⟩ : ∃ C1 : Ctx K, C1 = { C with F := fun m => C.F m ∨ (w.heap.size ≤ m ∧ m < W1.heap.size) } := ⟨_, rfl⟩
  have hC1 : C.Le C1 := by rw [hC1e]; exact ⟨rfl, rfl, rfl, rfl, fun _ h => .inl h⟩
  obtain ⟨a1, ha1⟩ : ∃ a1 : Act, a1 = { a with defers := marks ++ a.defers } := ⟨_, rfl⟩
  have hF1 : C1.F l := by rw [hC1e]; exact .inr ⟨hwl1, lt_of_get hl1⟩
  have hw01 : C1.w0 = C.w0 := hC1.w0
  have hl0 : C1.w0.heap.size ≤ l := by rw [hw01]; omega
  have hK1 : Kept C1 a1 W1 := by
    refine ⟨fun x hx => ?_, by rw [ha1]; exact hm2, fun l' hl' => ?_⟩
    · rw [ha1] at hx
      obtain ⟨D, h1, h2, h3, h4⟩ := hm1 x hx
      exact ⟨D, h1, by rw [hC1e]; exact h2, by rw [hw01]; exact h3, h4⟩
    · obtain ⟨g0, g1, r, g2⟩ := hR.defers.2.2 l' (by rw [← hC1.ro]; exact hl')
      exact ⟨by rw [ha1]; exact hm0 (by rw [← hC1.ro, hl']; simp), hC1.F l' g1, r, hgr.get g2⟩
  have hRl : ∀ l', C1.ro = some l' → l' ≠ l := fun l' hl' e => by
    obtain ⟨_, _, r, g2⟩ := hR.defers.2.2 l' (by rw [← hC1.ro]; exact hl')
    have := lt_of_get g2
    omega
  have hext1 : Ext C.F w (Own C.F H μ) μ W1 (Own C1.F H μ) μ := by
    have := hgr.ext C.F (Own C.F H μ) μ
    refine ⟨this.os, this.tape, this.output, this.size, this.keep, this.shape, this.mu, fun m hm => ?_, this.frn, this.frz, this.drawn⟩
    rcases hm with hm | hm
    · rw [hC1e] at hm
      rcases hm with hm | hm
      · exact .inl (.inl hm)
      · exact .inr hm.1
    · exact .inl (.inr hm)
  have hR1 : Rel C1 μ ⟨n, E, H, nx⟩ a1 W1 := by
    have hx := hR.ext.trans hext1
    refine ⟨hK1, by rw [ha1]; exact hR.size, fun t => ?_, ⟨fun k B hk => ?_, hR.heap.inj, fun k m hm => ?_, fun k m hk hm hF => ?_, fun m hm => ?_⟩, ?_⟩
    · rw [ha1]; exact (hR.env t).mono hext1
    · obtain ⟨h1, h2⟩ := hR.heap.blk k B hk
      exact ⟨h1, h2.mono hext1 rfl fun m hm => hgr.frn m (hR.heap.lt k m hm).2 trivial⟩
    · have := hR.heap.lt k m hm
      exact ⟨this.1, Nat.lt_of_lt_of_le this.2 hgr.size⟩
    · rw [hC1e] at hF
      rcases hF with hF | hF
      · exact hR.heap.dis k m hk hm hF
      · have := (hR.heap.lt k m hm).2; omega
    · rw [hC1e] at hm
      rcases hm with hm | hm
      · exact Nat.lt_of_lt_of_le (hR.heap.frn m hm) hgr.size
      · exact hm.2
    · show Ext C1.F C1.w0 C1.O0 C1.μ0 W1 (Own C1.F H μ) μ
      rw [hC1.w0, hC1.O0, hC1.μ0]
      refine hx.weakF fun m hm hF => ?_
      rw [hC1e] at hF
      rcases hF with hF | hF
      · exact hF
      · omega
  obtain ⟨E0, hE0⟩ : ∃ E0, E0 = envX E fs l0 := ⟨_, rfl⟩
  obtain ⟨HP, hHP⟩ : ∃ HP : Nat → Nat → Option ABlk, HP = fun i => heapX H bs (hp i) := ⟨_, rfl⟩
  have hR0 : Rel C1 μ ⟨n, E0, HP 0, nx⟩ a1 W1 := by rw [hE0, hHP]; exact (leW_mk hE hH).rel hR1
  rw [← hE0] at round done
  simp only [show ∀ i, heapX H bs (hp i) = HP i from fun i => by rw [hHP]] at round done
  have hsub0 : ∀ m, Own C1.F (HP 0) μ m → Own C1.F H μ m := own_sub fun k hk => by
    obtain ⟨B, hB⟩ := Option.isSome_iff_exists.1 hk
    rw [hHP] at hB
    obtain ⟨B0, h2, _⟩ := (leW_mk (n := n) (nx := nx) (fs := fs) (bs := bs) hE hH).heap k B hB
    exact by rw [show H k = some B0 from h2]; rfl
  -- what it has captured
  obtain ⟨fs', cs, hval, hfl, hcl, _, hcaps⟩ := hv
  obtain rfl : fs' = [] := List.length_eq_zero_iff.1 hfl
  have hcap1 : ∀ i u, cs[i]? = some u → ARel W1 (Own C1.F (HP 0) μ) noneμ (caps i) u := fun i u hu => ARel.mono ((hext1.noμ).toO hsub0) _ _ (hcaps i u hu)
  refine ⟨l, marks, W1, { target := .fn (.func gf) cs.toArray, args := #[.func (.yield l) #[] #[]] }, W1, gf, #[.func (.yield l) #[] #[]] ++ cs.toArray, W1, hrun, ?_, fun _ _ => trivial, ?_, fun h => by simp [wr, Fence.wide] at h, ?_⟩
  · simp only [resolve, hval]
    simp [go_sem]
  · simp [invoke, go_sem, eg]
  rw [← ha1]
  refine calls_wr.2 ((hit W1 (Own C1.F (HP 0) μ) cs (own_lt hR0) hcl hcap1 l
    (fun i O W => ∃ μ', O = Own C1.F (HP i) μ' ∧ Rel C1 μ' ⟨n, E0, HP i, nx⟩ a1 W ∧ W.heap[l]? = some (.loop (rec D .ready none)))
    (fun _ O W => ∃ μ' S2 c e, O = Own C1.F S2.heap μ' ∧ Rel C1 μ' S2 a1 W ∧ W.heap[l]? = some (.loop (rec D .done (some c))) ∧ ((c = .ret ∧ e = .ret) ∨ ∃ id, c = .exit id ∧ e = .exit id) ∧ Q e S2)
    (fun i O A B ⟨μ', h1, h2, h3⟩ hg => ⟨μ', h1, h2.grow hg, hg.get h3⟩) (fun i O A B ⟨μ', S2, c, e, h1, h2, h3, h4⟩ hg => ⟨μ', S2, c, e, h1, h2.grow hg, hg.get h3, h4⟩)
    (fun i O A ⟨μ', h1, h2, h3⟩ => by rw [h1]; exact own_lt h2) ?_ ⟨μ, rfl, hR0, hl1⟩).mono ?_)
  · rintro i O W vs nn hi ⟨μ1, rfl, hRJ, hlJ⟩ hT
    have hy := run_yield (P := P) (args := vs.toArray) hlJ (by rw [hrec]; simp; rw [hT.1]; exact hxl i)
    have htm : (ps.zip vs.toArray).foldl (fun t (p, v) => t.setIfInBounds p v) a1.tmps = (ps.toList.zip vs).foldl (fun t (p, v) => t.setIfInBounds p v) a1.tmps := by
      rw [← Array.foldl_toList, Array.toList_zip]
    have e1 : (rec D .ready none).params = ps ∧ (rec D .ready none).tmps = a1.tmps ∧ (rec D .ready none).assign = assign ∧ (rec D .ready none).body = body ∧ (rec D .ready none).fn = fnn := by rw [hrec, ha1]; exact ⟨rfl, rfl, rfl, rfl, rfl⟩
    rw [e1.1, e1.2.1, e1.2.2.1, e1.2.2.2.1, e1.2.2.2.2, htm] at hy
    refine ⟨fnn, _, assign, body, hy, roundIn_of_wpIn (F := Fence.wide) trivial ?_⟩
    refine round_core (st := ⟨n, E0, HP (i + 1), nx⟩) (Q := Q) (rec := rec D) hRJ hlJ (fun s p => by rw [hrec]) (fun s p s' p' => by rw [hrec]) hF1 hl0 hRl hT (by rw [hxl i]; simp) (hxi i) (fun p hp => Nat.le_of_ble_eq_true (List.all_eq_true.1 hps p hp)) (round i hi) ?_
    intro jump e S5 μ5 W6 hR6 hl6 hx6 hje hq
    rcases hje with ⟨rfl, rfl⟩ | ⟨rfl, rfl⟩ | ⟨id, rfl, rfl⟩
    · obtain ⟨_, L, hle⟩ := hq
      exact ⟨_, hx6.toO hle.own, .inl ⟨rfl, _, rfl, hle.rel hR6, hl6⟩⟩
    · exact ⟨_, hx6, .inr ⟨rfl, μ5, ⟨n, E0, S5.heap, S5.next⟩, .ret, .ret, rfl, hR6, hl6, .inl ⟨rfl, rfl⟩, hq⟩⟩
    · exact ⟨_, hx6, .inr ⟨rfl, μ5, ⟨n, E0, S5.heap, S5.next⟩, .exit id, .exit id, rfl, hR6, hl6, .inr ⟨id, rfl, rfl⟩, hq⟩⟩
  · have turn : ∀ (W : World) μ' S2 s p, Rel C1 μ' S2 a1 W → W.heap[l]? = some (.loop (rec D s p)) → Rel C1 μ' S2 a1 (W.putObj l (.loop (rec D .exhausted p))) := fun W μ' S2 s p hR2 hl2 => by
      have ht : Turn C1.F C1.w0.heap.size W (W.putObj l (.loop (rec D .exhausted p))) := Turn.put hF1 hl0 hl2 rfl rfl
      refine ht.rel hR2 ⟨fun x hx => ?_, hR2.defers.2.1, fun l' hl' => ?_⟩ rfl
      · obtain ⟨D', h1, h2, h3, h4⟩ := hR2.defers.1 x hx
        exact ⟨D', h1, h2, h3, (World.putObj_heap_other fun e => by rw [e, hl2] at h4; cases h4).trans h4⟩
      · obtain ⟨g0, g1, r, g2⟩ := hR2.defers.2.2 l' hl'
        exact ⟨g0, g1, r, (World.putObj_heap_other (hRl l' hl')).trans g2⟩
    rintro e W ⟨⟨v, rfl⟩, O, ⟨μ', _, hR2, hl2⟩ | ⟨i, _, μ', S2, c, e, _, hR2, hl2, hc, hq⟩⟩
    · have hen : (Instr.endLoop l).run P W = .ok none (W.putObj l (.loop (rec D .exhausted none))) := by
        subst hrec
        exact run_endLoop (P := P) hl2 (by simp)
      exact ⟨none, _, hen, C1, hC1, μ', _, turn W μ' _ _ _ hR2 hl2, done⟩
    · have hen : (Instr.endLoop l).run P W = .ok (some c) (W.putObj l (.loop (rec D .exhausted (some c)))) := by
        subst hrec
        exact run_endLoop (P := P) hl2 (by simp)
      refine ⟨some c, _, hen, ?_⟩
      have hl : Lift C Q e a1 (W.putObj l (.loop (rec D .exhausted (some c)))) := ⟨C1, hC1, μ', S2, turn W μ' _ _ _ hR2 hl2, hq⟩
      rcases hc with ⟨rfl, rfl⟩ | ⟨id, rfl, rfl⟩
      · exact wpIn_ret hl
      · exact wpIn_exit hl
end
end Go.Proofs.YtmpddomgiplnmaaDoor.Abs

/-
  ROWS THAT NOBODY WRITES ANY MORE: a variable that holds a slice of them holds data from here on.
-/
namespace Go.Proofs.YtmpddomgiplnmaaDoor.Abs
open Go

theorem own_put {F : Nat → Prop} {μ : Nat → Option Nat} {H : Nat → Option ABlk} {b : Nat} {B0 B : ABlk} (hb : H b = some B0) : Own F (updH H [(b, some B)]) μ = Own F H μ := by
  funext x
  apply propext
  constructor
  · rintro (hF | ⟨k, hk, hx⟩)
    · exact .inl hF
    · rw [updH_one] at hk
      by_cases h : k = b
      · subst h
        exact .inr ⟨k, by rw [hb]; rfl, hx⟩
      · rw [if_neg h] at hk
        exact .inr ⟨k, hk, hx⟩
  · rintro (hF | ⟨k, hk, hx⟩)
    · exact .inl hF
    · refine .inr ⟨k, ?_, hx⟩
      rw [updH_one]
      by_cases h : k = b
      · rw [if_pos h]; rfl
      · rw [if_neg h]; exact hk

section
variable {K : Nat} {P : Program} {S : St} {Q : Exit → St → Prop}

theorem osl_imm {C : Ctx K} {μ : Nat → Option Nat} {a : Act} {w : World} {n nx b e m N : Nat} {E : Nat → SV} {H : Nat → Option ABlk} {ty' : TypeId} {app : Bool} {cell : Nat → Nat → IV} {u : Value} (hR : Rel C μ ⟨n, E, H, nx⟩ a w) (hb : H b = some (.rows ty' e N cell)) (hle : m ≤ N)
    (hr : ARel w (Own C.F H μ) μ (.osl b e 0 0 m app) u) : ARel w (Own C.F (updH H [(b, none)]) μ) μ (.imm (.sl e m false cell)) u := by
  have hsub : ∀ x, Own C.F (updH H [(b, none)]) μ x → Own C.F H μ x := own_sub fun k hk => by
    rw [updH_one] at hk
    split at hk
    · cases hk
    · exact hk
  rcases hr with ⟨h0, he⟩ | ⟨mb, cap, q1, q2, q3, q4, _⟩
  · exact .inl ⟨he, h0⟩
  · rcases (hR.heap.blk b _ hb).2 with ⟨g1, _⟩ | ⟨m', cur', g1, g2, g3, g4⟩
    · rw [g1] at q1; cases q1
    · obtain rfl : m' = mb := by rw [g1] at q1; exact Option.some.inj q1
      refine .inr ⟨m', 0 * e + 0, cap, q2, q3, q4, (fun h => by cases h), ?_, (hR.heap.lt b m' g1).2, fun i hi j hj => ?_⟩
      · rintro (hF | ⟨k, hk, hkm⟩)
        · exact hR.heap.dis b m' (by show (H b).isSome = true; rw [hb]; rfl) g1 hF
        · rw [updH_one] at hk
          by_cases hkb : k = b
          · rw [if_pos hkb] at hk; cases hk
          · rw [if_neg hkb] at hk
            exact hkb (hR.heap.inj k b m' hk (by show (H b).isSome = true; rw [hb]; rfl) hkm g1)
      · obtain ⟨u2, r1, r2⟩ := g4 i (by omega) j hj
        refine ⟨u2, ?_, IRel.less hsub r2⟩
        show w.cell? ⟨m', 0 * e + 0 + i * e + j, none⟩ = some u2
        rw [show 0 * e + 0 + i * e + j = i * e + j by omega]
        simp only [World.cell?, g2]
        simpa using r1
theorem AW_frzS (t b : Nat) {c : Code} {n nx : Nat} {E : Nat → SV} {H : Nat → Option ABlk} {ty' : TypeId} {e N m : Nat} {app : Bool} {cell : Nat → Nat → IV} (ht : E t = .cv (.one (.osl b e 0 0 m app))) (hb : H b = some (.rows ty' e N cell)) (hle : m ≤ N)
    (h : AW K P c Q ⟨n, putE1 E t (.cv (.one (.imm (.sl e m false cell)))), updH H [(b, none)], nx⟩) : AW K P c Q ⟨n, E, H, nx⟩ := by
  intro C μ a w hR
  refine h C μ a w ?_
  obtain ⟨hx1, hH1⟩ := step_remove hR.heap b
  have hR1 : Rel C μ ⟨n, E, updH H [(b, none)], nx⟩ a w := hR.step hx1 hH1
  refine ⟨hR1.defers, hR1.size, fun t' => ?_, hR1.heap, hR1.ext⟩
  show SRel w _ μ (putE1 E t _ t') _
  unfold putE1
  cases hq : Nat.beq t' t with
  | false => exact hR1.env t'
  | true =>
    obtain rfl := Nat.eq_of_beq_eq_true hq
    have h1 : SRel w (Own C.F H μ) μ (E t') _ := hR.env t'
    rw [ht] at h1
    exact osl_imm hR hb hle h1

theorem AW_frzR (v b : Nat) {c : Code} {n nx : Nat} {E : Nat → SV} {H : Nat → Option ABlk} {ty ty' : TypeId} {e N m : Nat} {app : Bool} {cell : Nat → Nat → IV} (hv : H v = some (.var ty [.osl b e 0 0 m app])) (hb : H b = some (.rows ty' e N cell)) (hle : m ≤ N)
    (h : AW K P c Q ⟨n, E, updH (updH H [(b, none)]) [(v, some (.var ty [.imm (.sl e m false cell)]))], nx⟩) : AW K P c Q ⟨n, E, H, nx⟩ := by
  intro C μ a w hR
  refine h C μ a w ?_
  have hvb : v ≠ b := fun e => by rw [e, hb] at hv; cases hv
  obtain ⟨hx1, hH1⟩ := step_remove hR.heap b
  have hv1 : updH H [(b, none)] v = some (.var ty [.osl b e 0 0 m app]) := by rw [updH_one, if_neg hvb]; exact hv
  have hR1 : Rel C μ ⟨n, E, updH H [(b, none)], nx⟩ a w := hR.step hx1 hH1
  have hsub : ∀ x, Own C.F (updH H [(b, none)]) μ x → Own C.F H μ x := own_sub fun k hk => by
    rw [updH_one] at hk
    split at hk
    · cases hk
    · exact hk
  obtain ⟨mv, cur, k1, k2, k3⟩ := (hR.heap.blk v _ hv).2
  have hnew : BRel w (Own C.F (updH H [(b, none)]) μ) μ v (.var ty [.imm (.sl e m false cell)]) := by
    refine ⟨mv, cur, k1, k2, k3.1, fun i x u hx hu => ?_⟩
    match i, hx with
    | 0, hx =>
      cases hx
      have hr : ARel w (Own C.F H μ) μ (.osl b e 0 0 m app) u := k3.2 0 _ u rfl hu
      rcases hr with ⟨h0, he⟩ | ⟨mb, cap, q1, q2, q3, q4, _⟩
      · exact .inl ⟨he, h0⟩
      · rcases (hR.heap.blk b _ hb).2 with ⟨g1, _⟩ | ⟨m', cur', g1, g2, g3, g4⟩
        · rw [g1] at q1; cases q1
        · obtain rfl : m' = mb := by rw [g1] at q1; exact Option.some.inj q1
          refine .inr ⟨m', 0 * e + 0, cap, q2, q3, q4, (fun h => by cases h), ?_, (hR.heap.lt b m' g1).2, fun i hi j hj => ?_⟩
          · rintro (hF | ⟨k, hk, hkm⟩)
            · exact hR.heap.dis b m' (by show (H b).isSome = true; rw [hb]; rfl) g1 hF
            · rw [updH_one] at hk
              by_cases hkb : k = b
              · rw [if_pos hkb] at hk; cases hk
              · rw [if_neg hkb] at hk
                exact hkb (hR.heap.inj k b m' hk (by show (H b).isSome = true; rw [hb]; rfl) hkm g1)
          · obtain ⟨u2, r1, r2⟩ := g4 i (by omega) j hj
            refine ⟨u2, ?_, IRel.less hsub r2⟩
            show w.cell? ⟨m', 0 * e + 0 + i * e + j, none⟩ = some u2
            rw [show 0 * e + 0 + i * e + j = i * e + j by omega]
            simp only [World.cell?, g2]
            simpa using r1
    | i + 1, hx => simp at hx
  have ho := own_put (F := C.F) (μ := μ) (B := .var ty [.imm (.sl e m false cell)]) hv1
  have hs : ∀ k, (updH (updH H [(b, none)]) [(v, some (.var ty [.imm (.sl e m false cell)]))] k).isSome = true → (updH H [(b, none)] k).isSome = true := fun k hk => by
    rw [updH_one] at hk
    split at hk
    · rename_i e; rw [e, hv1]; rfl
    · exact hk
  refine ⟨hR1.defers, hR1.size, ?_, ⟨fun k B hk => ?_, fun k k' m hk hk' => hR1.heap.inj k k' m (hs k hk) (hs k' hk'), hR1.heap.lt, fun k m hk => hR1.heap.dis k m (hs k hk), hR1.heap.frn⟩, ?_⟩
  · show ERel w (Own C.F _ μ) μ E a
    rw [ho]; exact hR1.env
  · have hk : updH (updH H [(b, none)]) [(v, some (.var ty [.imm (.sl e m false cell)]))] k = some B := hk
    show k < nx ∧ BRel w (Own C.F _ μ) μ k B
    rw [ho]
    rw [updH_one] at hk
    split at hk
    · rename_i e
      cases hk
      rw [e]
      exact ⟨(hR.heap.blk v _ hv).1, hnew⟩
    · exact hR1.heap.blk k B hk
  · show Ext _ _ _ _ w (Own C.F _ μ) μ
    rw [ho]; exact hR1.ext
/-- One operation that may be passed over: what it makes is given up as it is made. -/
theorem AL_stepF {T : Lays} (G : Good P T) {n nx : Nat} {E : Nat → SV} {H : Nat → Option ABlk} {ops : Array Oper} {o : Oper} {rest : List Oper} (orc : Tab) (hTab : TabOk P orc) (fz : List Nat) (k i : Nat) (l : List Nat) {g : Option Bool} {x : SV} {vc : Prop} (hi : ops[i]? = some o) (hall : (ops.toList.all fun o => dstOk o.dst n) = true)
    (hg : guardOf ops.toList (restr E l) o.guard = some g) (hd : dstOk o.dst n = true) (h : stepF P T orc fz H k (restr E l) o g = some (x, vc)) (hv : vc) (hQ : AL K P ops rest Q ⟨n, putE E o.dst x, H, nx⟩) : AL K P ops (o :: rest) Q ⟨n, E, H, nx⟩ := by
  intro C μ a w hR
  have h1 := stepF_sound (S := ⟨n, E, H, nx⟩) G hTab hi hall hR hg hd h hv (Q := Lift C Q) (K' := wpL P ops (Lift C Q) rest) fun v w' hR' => hQ C μ _ w' hR'
  unfold wpOpL at h1
  rw [hi] at h1
  unfold wpL
  exact h1
end
end Go.Proofs.YtmpddomgiplnmaaDoor.Abs

/-
  A RANGE OVER A MAP: the next of its entries, whichever it is; keys are integers.
-/
namespace Go.Proofs.YtmpddomgiplnmaaDoor.Abs
open Go

theorem setBlock_at {w : World} {r : Nat} {o o' : Obj} (h : w.heap[r]? = some o) (k : Nat) : (ChangeMaps.setBlock w r o').heap[k]? = if k = r then some o' else w.heap[k]? := by
  have hlt : r < w.heap.size := lt_of_get h
  show (w.heap.setIfInBounds r o')[k]? = _
  rw [Array.getElem?_setIfInBounds]
  by_cases e : r = k
  · subst e
    simp [hlt]
  · simp [e, Ne.symm e]
section
variable {K : Nat} {P : Program} {Q : Exit → St → Prop}

theorem AW_next {rid n nx t d1 d2 b e i j : Nat} {E : Nat → SV} {H : Nat → Option ABlk} {o1 o2 : Oper} {k : IntKind} {va : Bool} {vn : Nat} {dom : List Int → Bool} {val : List Int → Nat → IV} {seen : List (List Int)}
    (hg1 : o1.guard = none) (ho1 : o1.op = .next (.tmp t) false) (hd1 : o1.dst = some d1) (hg2 : o2.guard = none) (ho2 : o2.op = .extract (.tmp d1) 0) (hd2 : o2.dst = some d2) (h1n : d1 < n) (h2n : d2 < n)
    (hx : E t = .cv (.one (.own b e i j))) (h0 : i * e + j = 0) (hB : H b = some (.it false [k] va vn dom val seen))
    (over : (∀ x, dom [x] = true → [x] ∈ seen) → Q .normal ⟨n, putE (putE E (some d1) .undef) (some d2) (.cv (ibool false)), H, nx⟩)
    (more : ∀ x, dom [x] = true → [x] ∉ seen → Q .normal ⟨n, putE (putE E (some d1) .undef) (some d2) (.cv (ibool true)), updH H [(b, some (.it false [k] va vn dom val ([x] :: seen)))], nx⟩) :
    AW K P (.region rid #[o1, o2] false) Q ⟨n, E, H, nx⟩ := by
  refine AW_region (fun C μ a w hR => ?_) (by simp [noDefer, ho1, ho2, isDefer])
  have hxr : SRel w (Own C.F H μ) μ (E t) _ := hR.env t
  rw [hx] at hxr
  obtain ⟨r, hr, hv⟩ := hxr
  rw [h0] at hv
  obtain ⟨r2, m, es, clock, ms, q1, q2, q3, q4, q5, q6, q7, q8⟩ := (hR.heap.blk b _ hB).2
  obtain rfl : r2 = r := by rw [hr] at q1; exact (Option.some.inj q1).symm
  have hent : ∀ e0 ∈ es.toList, ∃ x, dom [x] = true ∧ e0.key = .int k x := fun e0 he0 => by
    obtain ⟨m2, es2, clock2, e2, g1, g2, g3, g4, g5, g6⟩ := id q8
    obtain rfl : m = m2 := by cases e2; rfl
    rw [q3] at g3
    cases g3
    obtain ⟨ks, p1, p2, p3, _⟩ := g5 e0 he0
    match ks, p1 with
    | [x], _ => exact ⟨x, p2, p3⟩
  have hall : ∀ x, dom [x] = true → ∃ e0 ∈ es.toList, e0.key = .int k x := fun x hx => by
    obtain ⟨m2, es2, clock2, e2, g1, g2, g3, g4, g5, g6⟩ := id q8
    obtain rfl : m = m2 := by cases e2; rfl
    rw [q3] at g3
    cases g3
    obtain ⟨_, e0, he0, hk⟩ := g6 [x] hx
    exact ⟨e0, he0, hk⟩
  have hdist : ∀ x ∈ es.toList, ∀ y ∈ es.toList, x.born = y.born → x = y := fun x hx y hy hb => by
    refine Classical.byContradiction fun hne => ?_
    obtain ⟨i1, h1, rfl⟩ := List.mem_iff_getElem.1 hx
    obtain ⟨i2, h2, rfl⟩ := List.mem_iff_getElem.1 hy
    have hp := List.pairwise_iff_getElem.1 q4.dist
    rcases Nat.lt_trichotomy i1 i2 with h | h | h
    · exact hp i1 i2 h1 h2 h hb
    · subst h
      exact hne rfl
    · exact hp i2 i1 h2 h1 h hb.symm
  have hev : a.eval (.tmp t) = .pointer (some ⟨r2, 0, none⟩) := hv
  have hseen : ∀ e0 ∈ es.toList, ((ms.map (·.born)).toArray.contains e0.born = true ↔ ∃ x, [x] ∈ seen ∧ e0.key = .int k x) := fun e0 he0 => by
    constructor
    · intro hc
      have hc : e0.born ∈ ms.map (·.born) := by simpa using hc
      obtain ⟨e1, he1, hb1⟩ := List.mem_map.1 hc
      obtain rfl := hdist e1 (q5 e1 he1) e0 he0 hb1
      have hk : e1.key ∈ ms.map (·.key) := List.mem_map.2 ⟨e1, he1, rfl⟩
      rw [q6] at hk
      obtain ⟨ks, hks, hke⟩ := List.mem_map.1 hk
      obtain ⟨x, hx1, hx2⟩ := hent e1 he0
      have hl : ks.length = 1 := by
        obtain ⟨m2, es2, clock2, e2, g1, g2, g3, g4, g5, g6⟩ := id q8
        exact (g6 ks (q7 ks (List.mem_reverse.1 hks))).1
      match ks, hl with
      | [y], _ => exact ⟨y, List.mem_reverse.1 hks, hke.symm⟩
    · rintro ⟨x, hx1, hx2⟩
      have hk : keyV false [k] [x] ∈ ms.map (·.key) := by rw [q6]; exact List.mem_map.2 ⟨[x], List.mem_reverse.2 hx1, rfl⟩
      obtain ⟨e1, he1, hke⟩ := List.mem_map.1 hk
      have : e1 = e0 := by
        refine Classical.byContradiction fun hne => ?_
        obtain ⟨i1, h1, rfl⟩ := List.mem_iff_getElem.1 (q5 e1 he1)
        obtain ⟨i2, h2, rfl⟩ := List.mem_iff_getElem.1 he0
        have hp := List.pairwise_iff_getElem.1 q4.keys
        have hkk : (es.toList[i1]).key = (es.toList[i2]).key := hke.trans hx2.symm
        rcases Nat.lt_trichotomy i1 i2 with h | h | h
        · exact hp i1 i2 h1 h2 h hkk
        · subst h
          exact hne rfl
        · exact hp i2 i1 h2 h1 h hkk.symm
      subst this
      have : e1.born ∈ ms.map (·.born) := List.mem_map.2 ⟨e1, he1, rfl⟩
      simpa using this
  have hw1 : ∀ ty, Region.wanted o1 ty = true := fun ty => by simp [Region.wanted, hg1]
  have hw2 : ∀ ty, Region.wanted o2 ty = true := fun ty => by simp [Region.wanted, hg2]
  -- behind the step
  have second : ∀ (a1 : Act) (w1 : World) (bb : Bool) (vs : List Value) (S : St), S.size = n → Rel C μ { S with env := putE E (some d1) .undef } a1 w1 → a1.eval (.tmp d1) = .tuple (.bool bb :: vs).toArray → Q .normal { S with env := putE (putE E (some d1) .undef) (some d2) (.cv (ibool bb)) } → wpL P #[o1, o2] (Lift C Q) [o2] a1 w1 := fun a1 w1 bb vs S hS hR1 he1 hq => by
    unfold wpL
    rw [if_pos (hw2 _)]
    unfold Oper.wp
    have hrun : (execOp a1.eval o2).run P w1 = .ok (.value (.bool bb)) w1 := by simp [execOp, ho2, he1, Instr.extract]
    rw [hrun]
    refine ⟨C, .refl C, μ, _, hR1.put (d := o2.dst) (x := .cv (ibool bb)) (v := .bool bb) ⟨rfl, rfl⟩ (by rw [hd2]; exact Nat.ble_eq_true_of_le (by show d2 < S.size; omega)), ?_⟩
    rw [hd2]
    exact hq
  show wpL P #[o1, o2] (Lift C Q) [o1, o2] a w
  unfold wpL
  rw [if_pos (hw1 _)]
  unfold Oper.wp
  have hE1 : ∀ v, (a.put o1.dst v).eval (.tmp d1) = v := fun v => by
    have hlt : d1 < a.tmps.size := by rw [hR.size]; exact h1n
    rw [hd1]
    simp [Act.put, Act.eval, Array.getD_eq_getD_getElem?, hlt]
  rcases run_next_at (P := P) w o1.type r2 m clock clock (ms.map (·.born)).toArray es clock q2 q3 (fun x hx => q4.born x hx) (Nat.le_refl _) with ⟨hleft, hrun⟩ | ⟨e0, he0, w1, hw, hrun⟩
  · have hrun1 : (execOp a.eval o1).run P w = .ok (.value (.tuple #[.bool false])) w := by
      simp only [execOp, ho1, hev, Sem.run_bind, hrun, Result.andThen_ok, Sem.run_pure]
    rw [hrun1]
    have hR1 := hR.put (d := o1.dst) (x := .undef) (v := .tuple #[.bool false]) trivial (by rw [hd1]; exact Nat.ble_eq_true_of_le (by show d1 < n; omega))
    rw [hd1] at hR1
    refine second _ w false [] ⟨n, E, H, nx⟩ rfl (by rw [hd1]; exact hR1) (by rw [hE1]) (over fun x hx => ?_)
    obtain ⟨e0, he0, hk⟩ := hall x hx
    have hc : (ms.map (·.born)).toArray.contains e0.born = true := by
      cases hcc : (ms.map (·.born)).toArray.contains e0.born with
      | true => rfl
      | false =>
        have : e0 ∈ leftOf es (ms.map (·.born)).toArray := by
          unfold leftOf
          rw [Array.mem_filter]
          exact ⟨by simpa using he0, by rw [hcc]; rfl⟩
        have h0 : leftOf es (ms.map (·.born)).toArray = #[] := Array.eq_empty_of_size_eq_zero hleft
        rw [h0] at this
        simp at this
    obtain ⟨y, hy, hke⟩ := (hseen e0 he0).1 hc
    rw [hk] at hke
    cases hke
    exact hy
  · have hrun1 : (execOp a.eval o1).run P w = .ok (.value (.tuple #[.bool true, e0.key, e0.val])) (ChangeMaps.setBlock w1 r2 (.mapIter (some m) clock ((ms.map (·.born)).toArray.push e0.born) clock)) := by
      simp only [execOp, ho1, hev, Sem.run_bind, hrun, Result.andThen_ok, Sem.run_pure]
    rw [hrun1]
    have he1 : e0 ∈ leftOf es (ms.map (·.born)).toArray := by simpa using he0
    unfold leftOf at he1
    rw [Array.mem_filter] at he1
    have hees : e0 ∈ es.toList := by simpa using he1.1
    have hnc : (ms.map (·.born)).toArray.contains e0.born = false := by simpa using he1.2
    obtain ⟨x, hx1, hx2⟩ := hent e0 hees
    have hns : [x] ∉ seen := fun hm => by
      rw [(hseen e0 hees).2 ⟨x, hm, hx2⟩] at hnc
      cases hnc
    have hheap : w1.heap = w.heap := by rcases hw with rfl | rfl <;> rfl
    have hr2 : w1.heap[r2]? = some (.mapIter (some m) clock (ms.map (·.born)).toArray clock) := by rw [hheap]; exact q2
    have hset := setBlock_at (o' := .mapIter (some m) clock ((ms.map (·.born)).toArray.push e0.born) clock) hr2
    have hmr : m ≠ r2 := fun e => by
      rw [e, q2] at q3
      cases q3
    have hstep := step_write' (w := w) (w' := ChangeMaps.setBlock w1 r2 (.mapIter (some m) clock ((ms.map (·.born)).toArray.push e0.born) clock)) (nx := nx) (B := .it false [k] va vn dom val ([x] :: seen)) hR.heap hB hr (by rcases hw with rfl | rfl <;> rfl) (by rcases hw with rfl | rfl <;> rfl) (by rcases hw with rfl | rfl <;> rfl)
      (by
        show (w1.heap.setIfInBounds r2 _).size = _
        rw [Array.size_setIfInBounds, hheap])
      (fun k' hk' => by rw [hset, if_neg hk', hheap])
      (fun c ty fz hc => by rw [q2] at hc; cases hc)
      (fun _ c ty fz hc => by rw [hset, if_pos rfl] at hc; cases hc)
      (fun hext => ⟨r2, m, es, clock, ms ++ [e0], hr, by rw [hset, if_pos rfl]; simp, by rw [hset, if_neg hmr, hheap]; exact q3, q4, fun y hy => by
        rcases List.mem_append.1 hy with hy | hy
        · exact q5 y hy
        · rw [List.mem_singleton.1 hy]
          exact hees, by rw [List.reverse_cons, List.map_append, List.map_append, q6, List.map_cons, List.map_nil, hx2]; rfl, fun ks hks => by
        rcases List.mem_cons.1 hks with rfl | hks
        · exact hx1
        · exact q7 ks hks, q8.mono hext⟩)
      (by rcases hw with rfl | rfl <;> first | exact Nat.le_refl _ | exact Nat.le_succ _)
    have hR1 := (hR.step hstep.1 hstep.2).put (d := o1.dst) (x := .undef) (v := .tuple #[.bool true, e0.key, e0.val]) trivial (by rw [hd1]; exact Nat.ble_eq_true_of_le (by show d1 < n; omega))
    rw [hd1] at hR1
    exact second _ _ true [e0.key, e0.val] ⟨n, E, updH H [(b, some (.it false [k] va vn dom val ([x] :: seen)))], nx⟩ rfl (by rw [hd1]; exact hR1) (by rw [hE1]) (more x hx1 hns)
end
end Go.Proofs.YtmpddomgiplnmaaDoor.Abs
