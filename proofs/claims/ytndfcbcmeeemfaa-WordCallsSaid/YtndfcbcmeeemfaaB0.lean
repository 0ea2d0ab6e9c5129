/-
  THE RULES FOR CODE: sequences, tests, blocks, loops, regions in the order of the text; how a function's contract comes of its body.
-/
import Derived.Test.YtndfcbcmeeemfaaA9
import Derived.Deep.LoopGhost
namespace Go.Proofs.Ytndfcbcmeeemfaa.Abs
open Go

section
variable {K : Nat} {P : Program} {T : Lays} {F : Nat → Prop} {w : World} {μ : Nat → Option Nat} {H : Nat → Option ABlk} {nx : Nat} {E : Nat → SV} {a : Act} {S : St} {Q : Exit → St → Prop}

theorem Lift.mono {C : Ctx K} {Q' : Exit → St → Prop} (h : ∀ e S, Q e S → Q' e S) : ∀ e a w, Lift C Q e a w → Lift C Q' e a w := fun e _ _ ⟨μ, S, hR, hq⟩ => ⟨μ, S, hR, h e S hq⟩

theorem AW.mono {c : Code} {Q' : Exit → St → Prop} (h : AW K P c Q S) (hq : ∀ e S, Q e S → Q' e S) : AW K P c Q' S := fun C μ a w hR => wp_mono (h C μ a w hR) (Lift.mono hq)

def seqQ (K : Nat) (P : Program) (c : Code) (Q : Exit → St → Prop) : Exit → St → Prop
  | .normal, S => AW K P c Q S
  | e, S => Q e S

theorem AW_seq {c d : Code} (h : AW K P c (seqQ K P d Q) S) : AW K P (.seq c d) Q S := by
  intro C μ a w hR
  refine wp_seq (wp_mono (h C μ a w hR) ?_)
  rintro e a' w' ⟨μ', S', hR', hq⟩
  cases e with
  | normal => exact hq C μ' a' w' hR'
  | _ => exact ⟨μ', S', hR', hq⟩

def blkQ (id : Nat) (Q : Exit → St → Prop) : Exit → St → Prop
  | .exit id', S => bif Nat.beq id' id then Q .normal S else Q (.exit id') S
  | e, S => Q e S

theorem AW_block {id : Nat} {c : Code} (h : AW K P c (blkQ id Q) S) : AW K P (.block id c) Q S := by
  intro C μ a w hR
  refine wp_block (wp_mono (h C μ a w hR) ?_)
  rintro e a' w' ⟨μ', S', hR', hq⟩
  cases e with
  | exit id' =>
    simp only [blkQ] at hq
    simp only [Exit.inBlock]
    cases hb : Nat.beq id' id with
    | true => rw [hb] at hq; rw [if_pos (Nat.eq_of_beq_eq_true hb)]; exact ⟨μ', S', hR', hq⟩
    | false => rw [hb] at hq; rw [if_neg (fun e => by rw [e] at hb; simp at hb)]; exact ⟨μ', S', hR', hq⟩
  | _ => exact ⟨μ', S', hR', hq⟩

theorem AW_skip (h : Q .normal S) : AW K P .skip Q S := fun _ μ _ _ hR => wp_skip ⟨μ, S, hR, h⟩
theorem AW_exit {id : Nat} (h : Q (.exit id) S) : AW K P (.exit id) Q S := fun _ μ _ _ hR => wp_exit ⟨μ, S, hR, h⟩
theorem AW_ret (h : Q .ret S) : AW K P .ret Q S := fun _ μ _ _ hR => wp_ret ⟨μ, S, hR, h⟩
theorem AW_label {l : Nat} (h : Q .normal S) : AW K P (.label l) Q S := fun _ μ _ _ hR => wp_label ⟨μ, S, hR, h⟩

theorem AW_cond {c : Operand} {x y : Code} {b : Bool} (hc : evS S.env c = .cv (.one (.imm (.val (.bool b))))) (h1 : b = true → AW K P x Q S) (h2 : b = false → AW K P y Q S) : AW K P (.cond c x y) Q S := by
  intro C μ a w hR
  have hv := evS_sound hR.env c
  rw [hc] at hv
  exact wp_cond_split hv.1 (fun h => h1 h C μ a w hR) (fun h => h2 h C μ a w hR)

/-- A state that tells no more than another one. -/
structure Le (S S' : St) : Prop where
  size : S'.size = S.size
  env : ∀ t, S'.env t = .undef ∨ S'.env t = S.env t
  heap : ∀ k, S'.heap k = none ∨ S'.heap k = S.heap k
  next : S.next ≤ S'.next

theorem Le.rel {C : Ctx K} {S S' : St} (h : Le S S') (hR : Rel C μ S a w) : Rel C μ S' a w := by
  have hsub : ∀ k, (S'.heap k).isSome = true → (S.heap k).isSome = true := by
    intro k hk
    rcases h.heap k with h' | h'
    · rw [h'] at hk; cases hk
    · rw [← h']; exact hk
  have hext : Ext C.F w (Own C.F S.heap μ) μ w (Own C.F S'.heap μ) μ := ext_sub (own_sub hsub)
  refine ⟨hR.defers, hR.size.trans h.size.symm, fun t => ?_, ⟨fun k B hk => ?_, fun k k' m hk hk' => hR.heap.inj k k' m (hsub k hk) (hsub k' hk'), fun k m hm => ?_, fun k m hk => hR.heap.dis k m (hsub k hk), hR.heap.frn⟩, hR.ext.trans hext⟩
  · rcases h.env t with h' | h'
    · rw [h']; trivial
    · rw [h']; exact (hR.env t).mono hext
  · rcases h.heap k with h' | h'
    · rw [h'] at hk; cases hk
    · rw [h'] at hk
      obtain ⟨h1, h2⟩ := hR.heap.blk k B hk
      exact ⟨Nat.lt_of_lt_of_le h1 h.next, h2.mono hext rfl fun _ _ => rfl⟩
  · have := hR.heap.lt k m hm
    exact ⟨Nat.lt_of_lt_of_le this.1 h.next, this.2⟩

theorem AW_le {c : Code} {S S' : St} (h : Le S S') (hw : AW K P c Q S') : AW K P c Q S := fun C μ a w hR => hw C μ a w (h.rel hR)
theorem AL_le {ops : Array Oper} {l : List Oper} {S S' : St} (h : Le S S') (hw : AL K P ops l Q S') : AL K P ops l Q S := fun C μ a w hR => hw C μ a w (h.rel hR)

def loopQ {ι : Type} (st : ι → St) (m : ι → Nat) (i : ι) (Q : Exit → St → Prop) : Exit → St → Prop
  | .normal, S => ∃ j, Le S (st j) ∧ m j < m i
  | e, S => Q e S

/-- A loop, by a family of states: one of them at each round's head. -/
theorem AW_loop {c : Code} {ι : Type} (st : ι → St) (m : ι → Nat) (i : ι) (h0 : Le S (st i)) (round : ∀ j, AW K P c (loopQ st m j Q) (st j)) : AW K P (.loop c) Q S := by
  intro C μ a w hR
  refine wp_loop_ghost (fun n a w => ∃ j μ, m j = n ∧ Rel C μ (st j) a w) (m i) ⟨i, μ, rfl, h0.rel hR⟩ ?_
  rintro n a' w' ⟨j, μ', rfl, hR'⟩
  refine wp_mono (round j C μ' a' w' hR') ?_
  rintro e a2 w2 ⟨μ2, S2, hR2, hq⟩
  cases e with
  | normal =>
    obtain ⟨j', hle, hlt⟩ := hq
    exact ⟨m j', hlt, j', μ2, rfl, hle.rel hR2⟩
  | _ => exact ⟨μ2, S2, hR2, hq⟩

theorem AL_nil {ops : Array Oper} (h : Q .normal S) : AL K P ops [] Q S := fun _ μ _ _ hR => ⟨μ, S, hR, h⟩

theorem AW_region {id : Nat} {ops : Array Oper} (h : AL K P ops ops.toList Q S) : AW K P (.region id ops false) Q S := fun C μ a w hR => wp_region_list (h C μ a w hR)

/-- Some operations by reckoning, the others behind them. -/
theorem AL_eval (G : Good P T) {ops : Array Oper} {l l' : List Oper} {S' : St} {p : Prop} (k : Nat) (hall : (ops.toList.all fun o => dstOk o.dst S.size) = true) (h : evalOps T ops.toList k S True l = some (S', p, l')) (hp : p) (hQ : AL K P ops l' Q S') : AL K P ops l Q S :=
  (evalOps_sound G k l S S' True p l' hall h hp).1 trivial hQ

/-- What a call comes to: from every world in which the state is so. -/
def ACall (P : Program) (f : FuncId) (args : List CV) (H : Nat → Option ABlk) (nx : Nat) (K : SV → (Nat → Option ABlk) → Nat → Prop) : Prop :=
  ∀ (F : Nat → Prop) (μ : Nat → Option Nat) (w : World) (vals : List Value), HRel F w μ H nx → TRel w (Own F H μ) μ args vals →
    Calls P f vals.toArray w fun e w' => ∃ v μ' x H' nx', e = .returned v ∧ Ext F w (Own F H μ) μ w' (Own F H' μ') μ' ∧ HRel F w' μ' H' nx' ∧ SRel w' (Own F H' μ') μ' x v ∧ K x H' nx'

theorem ACall.mono {f : FuncId} {args : List CV} {K K' : SV → (Nat → Option ABlk) → Nat → Prop} (h : ACall P f args H nx K) (hk : ∀ x H n, K x H n → K' x H n) : ACall P f args H nx K' :=
  fun F μ w vals h1 h2 => (h F μ w vals h1 h2).mono fun _ _ ⟨v, μ', x, H', n, q1, q2, q3, q4, q5⟩ => ⟨v, μ', x, H', n, q1, q2, q3, q4, hk _ _ _ q5⟩

def initE (args : List CV) : Nat → SV := fun t => match args[t]? with
  | some c => .cv c
  | none => .undef

/-- A function's results, off its slots. -/
def resCV (T : Lays) (S : St) : ResultVar → Option (CV × Prop)
  | .tmp t => match S.env t with
    | .cv c => some (c, True)
    | _ => none
  | .cell x t => match T t, S.env x with
    | some L, .cv (.one p) => match loadAt S.heap p L.size with
      | some (l, q) => match mk (isAgg L.kind) l with
        | some c => some (c, q)
        | none => none
      | none => none
    | _, _ => none

def resL (T : Lays) (S : St) : List ResultVar → Option (List CV × Prop)
  | [] => some ([], True)
  | r :: l => match resCV T S r, resL T S l with
    | some (c, p), some (cs, q) => some (c :: cs, p ∧ q)
    | _, _ => none

def resSV (T : Lays) (S : St) (l : List ResultVar) : Option (SV × Prop) :=
  match resL T S l with
  | some ([c], p) => some (.cv c, p)
  | some (cs, p) => some (.tup cs, p)
  | none => none

theorem resCV_sound (G : Good P T) {C : Ctx K} (hR : Rel C μ S a w) {r : ResultVar} {c : CV} {p : Prop} (h : resCV T S r = some (c, p)) (hp : p) :
    ∃ v, (match r with | .tmp t => (pure (a.tmps.getD t Go.undef) : Sem Value) | .cell x t => (do loadVar t (← asAddr (a.tmps.getD x Go.undef)))).run P w = .ok v w ∧ CRel w (Own C.F S.heap μ) μ c v := by
  cases r with
  | tmp t =>
    simp only [resCV] at h
    split at h
    · rename_i c' hc
      simp only [Option.some.injEq, Prod.mk.injEq] at h
      obtain ⟨rfl, _⟩ := h
      have := hR.env t
      rw [hc] at this
      exact ⟨_, rfl, this⟩
    · cases h
  | cell x t =>
    simp only [resCV] at h
    split at h
    · rename_i L q hL hx
      split at h
      · rename_i l q' hl
        split at h
        · rename_i c' hc
          simp only [Option.some.injEq, Prod.mk.injEq] at h
          obtain ⟨rfl, rfl⟩ := h
          have hv := hR.env x
          rw [hx] at hv
          obtain ⟨b, off, hval, cs, hlen, hrel, hcell⟩ := loadAt_sound hR.heap hv hl hp
          obtain ⟨v, hcv, hk⟩ := mk_sound hc hrel
          refine ⟨v, ?_, hcv⟩
          have hrun : (loadCells ⟨b, off, none⟩ L.size).run P w = .ok cs.toArray w := by
            rw [← hlen]
            exact run_loadCells_list w ⟨b, off, none⟩ cs fun j u hu => by rw [Addr.add_lit]; exact hcell j u hu
          have hag := run_isAgg (G.lay t L hL) w
          have hsz := run_sizeOf (G.lay t L hL) w
          rcases hk with ⟨hb, rfl⟩ | ⟨hb, hcs⟩
          · rw [hb] at hag
            simp [hval, asAddr, loadVar, hag, hsz, hrun]
          · rw [hb] at hag
            subst hcs
            have h0 : w.cell? ⟨b, off, none⟩ = some v := by simpa using hcell 0 v rfl
            simp [hval, asAddr, loadVar, hag, h0]
        · cases h
      · cases h
    · cases h

theorem resL_sound (G : Good P T) {C : Ctx K} (hR : Rel C μ S a w) : ∀ (rs : List ResultVar) (cs : List CV) (p : Prop), resL T S rs = some (cs, p) → p →
    ∃ vs : List Value, (rs.mapM fun (r : ResultVar) => (match r with | .tmp t => (pure (a.tmps.getD t Go.undef) : Sem Value) | .cell x t => (do loadVar t (← asAddr (a.tmps.getD x Go.undef))))).run P w = .ok vs w ∧ TRel w (Own C.F S.heap μ) μ cs vs := by
  intro rs
  induction rs with
  | nil => intro cs p h hp; simp [resL] at h; obtain ⟨rfl, _⟩ := h; exact ⟨[], rfl, rfl, fun i x u h => by simp at h⟩
  | cons r rs ih =>
    intro cs p h hp
    simp only [resL] at h
    split at h
    · rename_i c p1 cs' q h1 h2
      simp only [Option.some.injEq, Prod.mk.injEq] at h
      obtain ⟨rfl, rfl⟩ := h
      obtain ⟨v, hv, hc⟩ := resCV_sound G hR h1 hp.1
      obtain ⟨vs, hvs, hl⟩ := ih cs' q h2 hp.2
      refine ⟨v :: vs, ?_, by simp [hl.1], fun i z u hz hu => ?_⟩
      · rw [List.mapM_cons]
        simp only [Sem.run_bind, hv, Result.andThen_ok, hvs, Sem.run_pure]
      · cases i with
        | zero => simp at hz hu; subst hz; subst hu; exact hc
        | succ i => simp at hz hu; exact hl.2 i z u hz hu
    · cases h

theorem results_sound (G : Good P T) {C : Ctx K} (hR : Rel C μ S a w) {fn : Func} {x : SV} {p : Prop} (h : resSV T S fn.results.toList = some (x, p)) (hp : p) :
    ∃ v, (results fn a.tmps).run P w = .ok v w ∧ SRel w (Own C.F S.heap μ) μ x v := by
  unfold resSV at h
  have key : ∀ cs q, resL T S fn.results.toList = some (cs, q) → q → ∃ vs : List Value, (results fn a.tmps).run P w = .ok (if h : vs.toArray.size = 1 then vs.toArray[0] else .tuple vs.toArray) w ∧ TRel w (Own C.F S.heap μ) μ cs vs := by
    intro cs q hl hq
    obtain ⟨vs, hvs, hrel⟩ := resL_sound G hR _ cs q hl hq
    refine ⟨vs, ?_, hrel⟩
    unfold results
    rw [Array.mapM_eq_mapM_toList]
    simp only [Sem.run_bind, Sem.run_map, Sem.run_pure]
    exact (congrArg (fun r : Result (List Value) => (r.andThen fun a w' => Result.ok a.toArray w').andThen fun a w' => Result.ok (if h : a.size = 1 then a[0] else Value.tuple a) w') hvs).trans rfl
  split at h
  · rename_i c q hl
    simp only [Option.some.injEq, Prod.mk.injEq] at h
    obtain ⟨rfl, rfl⟩ := h
    obtain ⟨vs, hrun, hlen, hrel⟩ := key _ _ hl hp
    match vs, hlen with
    | [v], _ => exact ⟨v, by simpa using hrun, hrel 0 c v rfl rfl⟩
  · rename_i cs q hne hl
    simp only [Option.some.injEq, Prod.mk.injEq] at h
    obtain ⟨rfl, rfl⟩ := h
    obtain ⟨vs, hrun, hlen, hrel⟩ := key _ _ hl hp
    have hn : ¬ vs.toArray.size = 1 := by
      intro h1
      simp only [List.size_toArray] at h1
      match cs, hlen with
      | [], hlen => rw [h1] at hlen; simp at hlen
      | [c], _ => exact hne c rfl
      | _ :: _ :: _, hlen => rw [h1] at hlen; simp at hlen
    rw [dif_neg hn] at hrun
    exact ⟨_, hrun, vs, rfl, hlen, hrel⟩
  · cases h

/-- What a body leaves is what the call answers. -/
def bodyQ (T : Lays) (rs : List ResultVar) (K : SV → (Nat → Option ABlk) → Nat → Prop) : Exit → St → Prop
  | .normal, S | .ret, S => ∃ x p, resSV T S rs = some (x, p) ∧ p ∧ K x S.heap S.next
  | _, _ => False

theorem bodyQ_ret {rs : List ResultVar} {K : SV → (Nat → Option ABlk) → Nat → Prop} {S : St} {x : SV} {p : Prop} (h : resSV T S rs = some (x, p)) (hp : p) (hk : K x S.heap S.next) : bodyQ T rs K .ret S := ⟨x, p, h, hp, hk⟩

theorem ACall_body (G : Good P T) {f : FuncId} {fn : Func} {c : Code} {args : List CV} {K : SV → (Nat → Option ABlk) → Nat → Prop} (hf : P.funcs[f]? = some fn) (hb : fn.body = some c) (n : Nat) (hn : fn.ntmps = n) (hargs : args.length ≤ n)
    (h : AW nx P c (bodyQ T fn.results.toList K) ⟨n, initE args, H, nx⟩) : ACall P f args H nx K := by
  intro F μ w vals hH hA
  refine calls_of_wp hf hb ?_
  let C : Ctx nx := ⟨F, w, Own F H μ, μ, fun k m h => (hH.lt k m h).1⟩
  have hlen : vals.length = args.length := hA.1
  have hR : Rel C μ ⟨n, initE args, H, nx⟩ { tmps := vals.toArray ++ Array.replicate (fn.ntmps - vals.toArray.size) Go.undef, defers := [] } w := by
    refine ⟨rfl, ?_, fun t => ?_, hH, Ext.refl F w _ μ⟩
    · simp [hn]; omega
    · show SRel w _ μ (initE args t) _
      unfold initE
      cases hc : args[t]? with
      | none => trivial
      | some c =>
        have ht : t < args.length := by
          rcases Nat.lt_or_ge t args.length with h | h
          · exact h
          · rw [List.getElem?_eq_none h] at hc; cases hc
        have htv : t < vals.length := by omega
        have := hA.2 t c vals[t] hc (List.getElem?_eq_getElem htv)
        have e : (vals.toArray ++ Array.replicate (fn.ntmps - vals.toArray.size) Go.undef).getD t Go.undef = vals[t] := by simp [Array.getD_eq_getD_getElem?, Array.getElem?_append, htv]
        show SRel w _ μ (.cv c) ((vals.toArray ++ Array.replicate (fn.ntmps - vals.toArray.size) Go.undef).getD t Go.undef)
        rw [e]
        exact this
  refine wp_mono (h C μ _ w hR) ?_
  rintro e a' w' ⟨μ', S', hR', hq⟩
  cases e with
  | normal =>
    obtain ⟨x, p, h1, h2, h3⟩ := hq
    obtain ⟨v, hv, hs⟩ := results_sound G hR' h1 h2
    exact ⟨hR'.defers, v, hv, v, μ', x, S'.heap, S'.next, rfl, hR'.ext, hR'.heap, hs, h3⟩
  | ret =>
    obtain ⟨x, p, h1, h2, h3⟩ := hq
    obtain ⟨v, hv, hs⟩ := results_sound G hR' h1 h2
    exact ⟨hR'.defers, v, hv, v, μ', x, S'.heap, S'.next, rfl, hR'.ext, hR'.heap, hs, h3⟩
  | _ => exact hq.elim
end
end Go.Proofs.Ytndfcbcmeeemfaa.Abs
