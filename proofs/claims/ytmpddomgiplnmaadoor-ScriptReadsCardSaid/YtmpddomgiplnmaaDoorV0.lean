/-
  A BODY BY RECKONING: what must hold that a piece of code ends as it should, as a plain function of the code and of an abstract state. It stops at loops, and where it is told to. No program in sight.
-/
import Derived.Test.YtmpddomgiplnmaaDoorX8
namespace Go.Proofs.YtmpddomgiplnmaaDoor.Abs
open Go

/-- Contracts, which operations are given up as they are made (by region), how open regions are done (their bits and effects), where to stop. -/
structure Cfg where
  tab : Tab
  et : ETab := et0
  fz : Nat → List Nat := fun _ => []
  cb : Nat → Option (List Nat × List Bool) := fun _ => none
  stop : Nat → Bool := fun _ => false
  sc : Nat → Bool := fun _ => false

/-- What is left to be told by hand. -/
structure Leaf (p : Prop) : Prop where
  go : p
def rdB : SV → Option Bool
  | .cv (.one (.imm (.val (.bool b)))) => some b
  | _ => none
theorem rdB_eq {x : SV} {b : Bool} (h : rdB x = some b) : x = .cv (.one (.imm (.val (.bool b)))) := by
  unfold rdB at h
  split at h
  · cases h; rfl
  · cases h

section
variable {K : Nat} {P : Program} {T : Lays} {S : St} {Q : Exit → St → Prop}

def tmpOf : Operand → Nat
  | .tmp t => t
  | _ => 1000000
/-- A region, reckoned; where the reckoning stops, the rest stands. -/
def wpR (K : Nat) (P : Program) (T : Lays) (cf : Cfg) (id : Nat) (ops : Array Oper) (Q : Exit → St → Prop) : St → Prop
  | ⟨n, E, H, nx⟩ => match runEff P T cf.tab cf.et (cf.fz id) ops.toList n ops.toList.length 0 E H nx True ops.toList with
    | some (S', p, []) => p ∧ Q .normal S'
    | some (S', p, l) => p ∧ Leaf (AL K P ops l Q S')
    | none => False

def wpD (K : Nat) (P : Program) (T : Lays) (cf : Cfg) (id : Nat) (ops : Array Oper) (Q : Exit → St → Prop) : St → Prop
  | ⟨n, E, H, nx⟩ => match cf.cb id with
    | none => Leaf (AW K P (.region id ops true) Q ⟨n, E, H, nx⟩)
    | some (c, fl) => match drawG P T cf.tab cf.et (cf.fz id) ops.toList n 0 ops.toList E H nx with
      | some (tr, Ef, Hf, nf, p) => (edgesOk ops.toList 0 ops.toList && (cOk c 0 ops.toList && (Nat.beq c.length ops.toList.length && pairsOk ops.toList c 0 ops.toList))) = true ∧ tr.map (·.eff) = fl ∧ effOkG c fl ops.toList.length = true ∧ p ∧ checkG P T cf.tab (cf.fz id) ops.toList c fl tr H 0 ops.toList E tr ∧ Q .normal ⟨n, Ef, Hf, nf⟩
      | none => Leaf (AW K P (.region id ops true) Q ⟨n, E, H, nx⟩)

/-- What must hold ahead of a piece of code. -/
def wpC (K : Nat) (P : Program) (T : Lays) (cf : Cfg) : Code → (Exit → St → Prop) → St → Prop
  | .skip, Q, S => Q .normal S
  | .label _, Q, S => Q .normal S
  | .exit id, Q, S => Q (.exit id) S
  | .ret, Q, S => Q .ret S
  | .seq a b, Q, S => wpC K P T cf a (fun e S' => match e with
    | .normal => wpC K P T cf b Q S'
    | e => Q e S') S
  | .block id a, Q, S => bif cf.stop id then Leaf (AW K P (.block id a) Q S) else wpC K P T cf a (blkQ id Q) S
  | .cond c x y, Q, S => bif cf.sc (tmpOf c) then Leaf (AW K P (.cond c x y) Q S) else match rdB (evS S.env c) with
    | some b => (b = true → wpC K P T cf x Q S) ∧ (b = false → wpC K P T cf y Q S)
    | none => Leaf (AW K P (.cond c x y) Q S)
  | .region id ops d, Q, S => bif cf.stop id || !((ops.toList.all fun o => dstOk o.dst S.size) && noDefer ops.toList) then Leaf (AW K P (.region id ops d) Q S) else match d with
    | false => wpR K P T cf id ops Q S
    | true => wpD K P T cf id ops Q S
  | c, Q, S => Leaf (AW K P c Q S)

theorem wpC_sound (G : Good P T) (hm : P.follows .mixedOrders = true) {cf : Cfg} (hT : TabOk P cf.tab) (hE : ETabOk P cf.et) : ∀ (c : Code) {Q : Exit → St → Prop} {S : St}, wpC K P T cf c Q S → AW K P c Q S
  | .skip, _, _, h => AW_skip h
  | .label _, _, _, h => AW_label h
  | .exit _, _, _, h => AW_exit h
  | .ret, _, _, h => AW_ret h
  | .seq a b, Q, S, h => AW_seq ((wpC_sound G hm hT hE a h).mono fun e S' h' => by
      cases e with
      | normal => exact wpC_sound G hm hT hE b h'
      | _ => exact h')
  | .block id a, Q, S, h => by
    unfold wpC at h
    cases hs : cf.stop id with
    | true => rw [hs] at h; exact h.go
    | false => rw [hs] at h; exact AW_block (wpC_sound G hm hT hE a h)
  | .cond c x y, Q, S, h => by
    unfold wpC at h
    cases hs : cf.sc (tmpOf c) with
    | true => rw [hs] at h; exact h.go
    | false =>
      rw [hs] at h
      cases hb : rdB (evS S.env c) with
      | none => rw [hb] at h; exact h.go
      | some b => rw [hb] at h; exact AW_cond (rdB_eq hb) (fun e => wpC_sound G hm hT hE x (h.1 e)) fun e => wpC_sound G hm hT hE y (h.2 e)
  | .region id ops d, Q, S, h => by
    unfold wpC at h
    cases hs : (cf.stop id || !((ops.toList.all fun o => dstOk o.dst S.size) && noDefer ops.toList)) with
    | true => rw [hs] at h; exact h.go
    | false =>
      rw [hs] at h
      simp only [Bool.or_eq_false_iff, Bool.not_eq_false', Bool.and_eq_true] at hs
      obtain ⟨_, hall, hnd⟩ := hs
      obtain ⟨n, E, H, nx⟩ := S
      cases d with
      | false =>
        simp only [cond_false, wpR] at h
        split at h
        · rename_i S' p hr
          exact AW_region ((runEff_sound G hT hE hall _ 0 ops.toList E H nx S' True p [] hr h.1).1 trivial (AL_nil h.2)) hnd
        · rename_i S' p l _ hr
          exact AW_region ((runEff_sound G hT hE hall _ 0 ops.toList E H nx S' True p l hr h.1).1 trivial h.2.go) hnd
        · exact h.elim
      | true =>
        simp only [cond_false, wpD] at h
        split at h
        · exact h.go
        · split at h
          · rename_i hr
            obtain ⟨h1, h2, h3, h4, h5, h6⟩ := h
            exact AW_drwG G hm cf.tab hT cf.et hE (cf.fz id) _ _ hall h1 hr h2 h3 h4 h5 h6 hnd
          · exact h.go
  | .loop c, _, _, h => h.go
  | .rangeFunc f p a b, _, _, h => h.go
  | .scope c, _, _, h => h.go
  | .goto l, _, _, h => h.go
  | .refuse w, _, _, h => h.go

/-- A body's end, reckoned. -/
def bodyW (T : Lays) (rs : List ResultVar) (k : SV → (Nat → Option ABlk) → Nat → Prop) : Exit → St → Prop
  | .normal, S | .ret, S => match resSV T S rs with
    | some (x, p) => p ∧ k x S.heap S.next
    | none => False
  | _, _ => False
theorem bodyW_imp {rs : List ResultVar} {k k' : SV → (Nat → Option ABlk) → Nat → Prop} (hk : ∀ x H n, k x H n → k' x H n) : ∀ e S, bodyW T rs k e S → bodyQ T rs k' e S := by
  intro e S h
  cases e <;> first | exact h.elim | skip
  all_goals
    simp only [bodyW] at h
    split at h
    · rename_i x p hr
      exact ⟨x, p, hr, h.1, hk _ _ _ h.2⟩
    · exact h.elim
structure SEnd (x y : SV) : Prop where
  le : SLe x y
theorem SEnd.eq {x y : SV} (h : x = y) : SEnd x y := ⟨SLe.of_eq h⟩
def EndsW (r : SV) (x : SV) (H : Nat → Option ABlk) (_ : Nat) : Prop := match frzSV H x with
  | some (y, p) => p ∧ SEnd y r
  | none => False
theorem EndsW_ends {r x : SV} {H : Nat → Option ABlk} {n : Nat} (h : EndsW r x H n) : Ends r x H n := by
  unfold EndsW at h
  split at h
  · rename_i y p hr
    exact ⟨y, p, hr, h.1, h.2.le⟩
  · exact h.elim

/-- A pure function's contract, by its body. -/
theorem pcall_wp (G : Good P T) (hm : P.follows .mixedOrders = true) (cf : Cfg) (hT : TabOk P cf.tab) (hE : ETabOk P cf.et) {f : FuncId} {fn : Func} {c : Code} {args : List CV} {r : SV} (hf : P.funcs[f]? = some fn) (hb : fn.body = some c) (n : Nat) (hn : fn.ntmps = n) (hargs : Nat.ble args.length n = true)
    (h : wpC 0 P T cf c (bodyW T fn.results.toList (EndsW r)) ⟨n, initE args, noneH, 0⟩) : PCall P f args r :=
  PCall_of (ACall_body G hf hb n hn (Nat.le_of_ble_eq_true hargs) ((wpC_sound G hm hT hE c h).mono (bodyW_imp fun _ _ _ => EndsW_ends)))
/-- The same with something to do ahead. -/
theorem pcall_wp0 (G : Good P T) {f : FuncId} {fn : Func} {c : Code} {args : List CV} {r : SV} (hf : P.funcs[f]? = some fn) (hb : fn.body = some c) (n : Nat) (hn : fn.ntmps = n) (hargs : Nat.ble args.length n = true)
    (h : AW 0 P c (bodyW T fn.results.toList (EndsW r)) ⟨n, initE args, noneH, 0⟩) : PCall P f args r :=
  PCall_of (ACall_body G hf hb n hn (Nat.le_of_ble_eq_true hargs) (h.mono (bodyW_imp fun _ _ _ => EndsW_ends)))

/-- A call with effects: the blocks handed in, what it answers, the blocks behind it (by place; L tells which block stands at each place). -/
def EndsU (Bs : List ABlk) (Us : List (Option ABlk)) (res x : SV) (H' : Nat → Option ABlk) (n' : Nat) : Prop :=
  ∃ L : List Nat, L.length = Us.length ∧ ((nodupB L && ltB L n' && keptB L Bs.length) && Nat.ble Bs.length Us.length) = true ∧ SLe x (renS (rho L n') res) ∧ endsP (rho L n') H' L Us
theorem acall_wp (G : Good P T) (hm : P.follows .mixedOrders = true) (cf : Cfg) (hT : TabOk P cf.tab) (hE : ETabOk P cf.et) {f : FuncId} {fn : Func} {c : Code} {args : List CV} {Bs : List ABlk} {Us : List (Option ABlk)} {k q : Nat} {res : SV} (hf : P.funcs[f]? = some fn) (hb : fn.body = some c) (n : Nat) (hn : fn.ntmps = n) (hargs : Nat.ble args.length n = true) (hk : k = Bs.length) (hq : Us.length = Bs.length + q)
    (h : wpC k P T cf c (bodyW T fn.results.toList (EndsU Bs Us res)) ⟨n, initE args, heapOf Bs, k⟩) : ACall P f args (heapOf Bs) k fun x' H' n' => x' = res ∧ H' = updH (heapOf Bs) (updL 0 Us) ∧ n' = k + q := by
  subst hk
  refine ACall_norm (Bs := Bs) (cnt := q) (ACall_body G hf hb n hn (Nat.le_of_ble_eq_true hargs) ((wpC_sound G hm hT hE c h).mono (bodyW_imp fun x H' n' hx => ?_)))
  obtain ⟨L, h1, h2, h3, h4⟩ := hx
  rw [Bool.and_eq_true] at h2
  exact ⟨L, h1.trans hq, EndsE.all h1 h2.1 h2.2 h3 h4⟩
end
end Go.Proofs.YtmpddomgiplnmaaDoor.Abs
