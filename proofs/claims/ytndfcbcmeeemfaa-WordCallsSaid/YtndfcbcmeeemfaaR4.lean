/-
  A SLICE OF DATA COMPARED WITH NIL: either answer, but 'yes' of an empty one alone. Regions reckoned in parts.
-/
import Derived.Test.YtndfcbcmeeemfaaR3
namespace Go.Proofs.Ytndfcbcmeeemfaa.Abs
open Go

section
variable {K : Nat} {P : Program} {T : Lays} {S : St} {Q : Exit → St → Prop}

theorem equalIn_nil {w : World} {t e : TypeId} {a : Option Addr} {n c : Nat} (h : P.underlying t = some (.slice e)) (d : Nat) : (Op.equalIn (d + 1) t (.slice a n c) (.slice none 0 0)).run P w = .ok a.isNone w := by
  cases a with
  | none => simp [Op.equalIn, run_underlying h]
  | some a => simp [Op.equalIn, run_underlying h]

theorem run_isnil {w : World} {t e : TypeId} {a : Option Addr} {n c : Nat} (h : P.underlying t = some (.slice e)) : (binOp .eql t (.slice a n c) (.slice none 0 0)).run P w = .ok (.bool a.isNone) w := by
  have h1 : (Op.equal t (.slice a n c) (.slice none 0 0)).run P w = .ok a.isNone w := equalIn_nil h 9999
  simp only [binOp, Sem.run_bind, h1, Result.andThen_ok, Sem.run_pure]

theorem AL_isnil (G : Good P T) {ops : Array Oper} {o : Oper} {rest : List Oper} {t t' e : TypeId} {x : Operand} {s b : Nat} {z : List Value} {es n k nx : Nat} {ex : Bool} {cell : Nat → Nat → IV} {E : Nat → SV} {H : Nat → Option ABlk} (hg : o.guard = none) (ho : o.op = .binOp .eql t x (.const (.slice none 0 0)) t') (hL : T t = some ⟨.sl e, s, b, z⟩)
    (hx : rd E x = .cv (.one (.imm (.sl es n ex cell)))) (hn : need E x) (hd : dstOk o.dst k = true) (h : ∀ q : Bool, (q = true → n = 0) → AL K P ops rest Q ⟨k, putE E o.dst (.cv (ibool q)), H, nx⟩) : AL K P ops (o :: rest) Q ⟨k, E, H, nx⟩ := by
  intro C μ a w hR
  have hu := under_sl (G.lay t _ hL)
  have hv : IRel w (Own C.F H μ) (.sl es n ex cell) (a.eval x) := rd_one hR.env hx hn
  unfold wpList
  rw [if_pos (by simp [Region.wanted, hg])]
  refine .inl ?_
  have go : ∀ (ad : Option Addr) (c : Nat), a.eval x = .slice ad n c → (ad.isNone = true → n = 0) → o.wp P a w (wpList P ops (Lift C Q) rest) (Lift C Q) := by
    intro ad c hval hz
    have hrun : (execOp a.eval o).run P w = .ok (.value (.bool ad.isNone)) w := by
      have hgd : (eqGuard .eql t x (.const (.slice none 0 0)) (.slice ad n c) (.slice none 0 0)).run P w = .ok () w := by simp [eqGuard]
      have hc : a.eval (.const (.slice none 0 0)) = .slice none 0 0 := rfl
      simp only [execOp, ho, hval, hc, Sem.run_bind, hgd, Result.andThen_ok, run_isnil hu, Sem.run_pure]
    unfold Oper.wp
    rw [hrun]
    exact h ad.isNone hz C μ _ w (hR.put (d := o.dst) (x := .cv (ibool ad.isNone)) (v := .bool ad.isNone) ⟨rfl, rfl⟩ hd)
  rcases hv with ⟨⟨ad, hval⟩, hn0⟩ | ⟨bb, off, cap, hval, _⟩
  · exact go ad 0 (by rw [hval, hn0]) fun _ => hn0
  · exact go _ cap hval fun h => by cases h

/-- A region up to where the reckoning stops. -/
theorem AW_part (G : Good P T) {id n nx : Nat} {E : Nat → SV} {H : Nat → Option ABlk} {ops : Array Oper} (orc : Tab) (hTab : TabOk P orc) (et : ETab) (hE : ETabOk P et) (fz : List Nat) {S' : St} {p : Prop} {l' : List Oper} (hall : (ops.toList.all fun o => dstOk o.dst n) = true) (h : runEff P T orc et fz ops.toList n ops.toList.length 0 E H nx True ops.toList = some (S', p, l')) (hp : p) (hQ : AL K P ops l' Q S') : AW K P (.region id ops false) Q ⟨n, E, H, nx⟩ :=
  AW_region ((runEff_sound G hTab hE hall _ 0 ops.toList E H nx S' True p l' h hp).1 trivial hQ)

/-- From there on. -/
theorem AL_part (G : Good P T) {n nx : Nat} {E : Nat → SV} {H : Nat → Option ABlk} {ops : Array Oper} {l : List Oper} (orc : Tab) (hTab : TabOk P orc) (et : ETab) (hE : ETabOk P et) (fz : List Nat) {S' : St} {p : Prop} {l' : List Oper} (hall : (ops.toList.all fun o => dstOk o.dst n) = true) (h : runEff P T orc et fz ops.toList n l.length 0 E H nx True l = some (S', p, l')) (hp : p) (hQ : AL K P ops l' Q S') : AL K P ops l Q ⟨n, E, H, nx⟩ :=
  (runEff_sound G hTab hE hall _ 0 l E H nx S' True p l' h hp).1 trivial hQ

def et0 : ETab := fun _ _ _ => none
theorem et0_ok (P : Program) : ETabOk P et0 := fun f args H e h => by cases h

/-- One more function's contract with effects. -/
def etAdd (f : FuncId) (c : List CV → (Nat → Option ABlk) → Option Eff) (et : ETab) : ETab := fun g args H => bif Nat.beq g f then c args H else et g args H
theorem etAdd_ok {f : FuncId} {c : List CV → (Nat → Option ABlk) → Option Eff} {et : ETab} (hf : CallOk P f)
    (hc : ∀ args H e, c args H = some e → e.vc → nodupB e.blks = true ∧ ∃ (args0 : List CV) (Bs : List ABlk), Bs.length = e.blks.length ∧ (∀ nx, args = args0.map (renC (rho e.blks nx))) ∧
      (∀ nx (j : Nat) b, e.blks[j]? = some b → H b = (Bs[j]?).map (renB (rho e.blks nx))) ∧ ACall P f args0 (heapOf Bs) Bs.length fun x H' n' => x = e.res ∧ H' = updH (heapOf Bs) e.upd ∧ n' = Bs.length + e.cnt) (h : ETabOk P et) : ETabOk P (etAdd f c et) := by
  intro g args H e hg hv
  unfold etAdd at hg
  cases hb : Nat.beq g f with
  | true => rw [hb] at hg; obtain rfl := Nat.eq_of_beq_eq_true hb; exact ⟨hf, hc args H e hg hv⟩
  | false => rw [hb] at hg; exact h g args H e hg hv

theorem heapOf_nil : heapOf [] = noneH := by funext k; simp [heapOf, noneH]

/-- Arguments that say more. -/
def TLe (l m : List CV) : Prop := l.length = m.length ∧ ∀ (i : Nat) x y, l[i]? = some x → m[i]? = some y → CLe x y
theorem TLe.nil : TLe [] [] := ⟨rfl, fun i x y h => by simp at h⟩
theorem TLe.cons {x y : CV} {l m : List CV} (h : CLe x y) (hl : TLe l m) : TLe (x :: l) (y :: m) := by
  refine ⟨by simp [hl.1], fun i a b ha hb => ?_⟩
  cases i with
  | zero => simp at ha hb; subst ha; subst hb; exact h
  | succ i => simp at ha hb; exact hl.2 i a b ha hb
theorem TLe.refl (l : List CV) : TLe l l := ⟨rfl, fun i x y hx hy => by rw [hx] at hy; cases hy; exact CLe.refl x⟩
theorem PCall.args {f : FuncId} {l m : List CV} {r : SV} (h : PCall P f m r) (hl : TLe l m) : PCall P f l r := by
  intro O w vals hO hA
  refine h O w vals hO ⟨hA.1.trans hl.1, fun i y u hy hu => ?_⟩
  have hi : i < l.length := by rw [hl.1]; exact (List.getElem?_eq_some_iff.1 hy).1
  exact hl.2 i l[i] y (List.getElem?_eq_getElem hi) hy w O _ u (hA.2 i l[i] u (List.getElem?_eq_getElem hi) hu)

/-- The end of a body that leaves one new block. -/
theorem EndsE.one {b n' : Nat} {res x : SV} {H' : Nat → Option ABlk} {B B0 : ABlk} (hb : Nat.blt b n' = true) (hx : SLe x (renS (rho [b] n') res)) (hB : H' b = some B0) (hle : BLe B0 (renB (rho [b] n') B)) : EndsE [] [b] res (updH noneH [(0, some B)]) x H' n' := by
  refine ⟨rfl, fun c hc => ?_, fun j hj => absurd hj (Nat.not_lt_zero j), hx, fun j c hj B' hB' => ?_, fun j hj => ?_⟩
  · simp only [List.mem_singleton] at hc
    subst hc
    exact Nat.le_of_ble_eq_true hb
  · cases j with
    | zero =>
      simp only [List.getElem?_cons_zero, Option.some.injEq] at hj
      subst hj
      rw [updH_one, if_pos rfl, Option.some.injEq] at hB'
      subst hB'
      exact ⟨B0, hB, hle⟩
    | succ j => simp at hj
  · have : j ≠ 0 := by simp at hj; omega
    rw [updH_one, if_neg this]
    rfl

theorem renA_imm (ρ : Nat → Nat) : ∀ (x : AV), immAV x = true → (∀ f nf fi nc ca, x ≠ .fn f nf fi nc ca) → renA ρ x = x
  | .imm _, _, _ => rfl
  | .vptr _ _, _, _ => rfl
  | .fn f nf fi nc ca, _, h => absurd rfl (h f nf fi nc ca)
  | .own _ _ _ _, h, _ => by simp [immAV] at h
  | .osl _ _ _ _ _ _, h, _ => by simp [immAV] at h
  | .omp _, h, _ => by simp [immAV] at h
end
end Go.Proofs.Ytndfcbcmeeemfaa.Abs
