/-
  WHAT THE EVALUATOR ANSWERS FOR AN OPERATION THAT CHANGES NO MEMORY IS WHAT THE MODEL YIELDS (4): slices, lengths; the theorem 'evalV_sound' for all of them.
-/
import Derived.Test.YtndfcbcmeeemfaaK1
namespace Go.Proofs.Ytndfcbcmeeemfaa.Abs
open Go

section
variable {P : Program} {T : Lays} {F : Nat → Prop} {w : World} {μ : Nat → Option Nat} {H : Nat → Option ABlk} {nx : Nat} {E : Nat → SV} {a : Act}

theorem run_bounds {len cap : Nat} {lo hi mx : Option Value} {l h m : Nat} (hl : (lo = none ∧ l = 0) ∨ ∃ k, lo = some (.int k (l : Int))) (hh : (hi = none ∧ h = len) ∨ ∃ k, hi = some (.int k (h : Int)))
    (hm : (mx = none ∧ m = cap) ∨ (hi ≠ none ∧ ∃ k, mx = some (.int k (m : Int)))) (h1 : l ≤ h) (h2 : h ≤ m) (h3 : m ≤ cap) : (Instr.sliceBounds true len cap lo hi mx).run P w = .ok (l, h, m) w := by
  have hb : ∀ (k : IntKind) (i y : Nat) (code : BoundsCode), i ≤ y → (Instr.sliceBound (.int k (i : Int)) y code).run P w = .ok i w := fun k i y code hi => by
    have := run_sliceBound (P := P) w k (i : Int) y code (by omega) (by omega)
    simpa using this
  have hbl : ∀ code, (match lo with | some v => Instr.sliceBound v h code | none => (pure 0 : Sem Nat)).run P w = .ok l w := by
    intro code
    rcases hl with ⟨rfl, rfl⟩ | ⟨k, rfl⟩
    · rfl
    · exact hb k l h code h1
  rcases hm with ⟨rfl, rfl⟩ | ⟨hne, km, rfl⟩
  · rcases hh with ⟨rfl, rfl⟩ | ⟨kh, rfl⟩
    · simp only [Instr.sliceBounds, Sem.run_bind, Sem.run_pure, Result.andThen_ok]
      have := hbl .sliceB
      rcases hl with ⟨rfl, rfl⟩ | ⟨k, rfl⟩
      · rfl
      · simp only [Sem.run_bind, hb k l h _ h1, Result.andThen_ok, Sem.run_pure, Option.isSome_none]
    · simp only [Instr.sliceBounds, Sem.run_bind, Sem.run_pure, Result.andThen_ok, hb kh h m _ h2]
      rcases hl with ⟨rfl, rfl⟩ | ⟨k, rfl⟩
      · rfl
      · simp only [Sem.run_bind, hb k l h _ h1, Result.andThen_ok, Sem.run_pure]
  · rcases hh with ⟨rfl, rfl⟩ | ⟨kh, rfl⟩
    · exact absurd rfl hne
    · simp only [Instr.sliceBounds, Sem.run_bind, Result.andThen_ok, hb km m cap _ h3, hb kh h m _ h2]
      rcases hl with ⟨rfl, rfl⟩ | ⟨k, rfl⟩
      · rfl
      · simp only [Sem.run_bind, hb k l h _ h1, Result.andThen_ok, Sem.run_pure]

theorem bound_sound {O : Nat → Prop} (hE : ERel w O μ E a) {d : Int} {y : Option Operand} {v : Int} {p : Prop} (hb : bound E d y = some (v, p)) (hp : p) : (y.map a.eval = none ∧ v = d) ∨ ∃ k, y.map a.eval = some (.int k v) := by
  cases y with
  | none => simp [bound] at hb; exact .inl ⟨rfl, hb.1.symm⟩
  | some y =>
    simp only [bound] at hb
    split at hb
    · rename_i k q hq
      simp only [Option.some.injEq, Prod.mk.injEq] at hb
      obtain ⟨rfl, rfl⟩ := hb
      exact .inr ⟨k, by rw [Option.map_some, rd_val hE hq hp]⟩
    · cases hb

/-- Bounds that hold, and the capacity from the new beginning on. -/
def capFact (n cap : Nat) (h : Nat) (ex r : Bool) (hi mx : Option Operand) (m : Nat) : Prop :=
  (mx = none ∧ m = cap ∧ (r = true → hi = none ∧ ex = true)) ∨ (m ≤ n ∧ (r = true → m = h))

theorem yield_slice_imm {O : Nat → Prop} {o : Oper} {t e : TypeId} {x : Operand} {lo hi mx : Option Operand} {sz by_ : Nat} {z : List Value} {s n : Nat} {ex : Bool} {cell : Nat → Nat → IV} {l h : Int} {pl ph : Prop}
    (hT : LayOk P T) (hE : ERel w O μ E a) (ho : o.op = .slice t x lo hi mx) (hL : T t = some ⟨.sl e, sz, by_, z⟩) (hF : ∃ L, T e = some L ∧ (L.size = s ∨ n = 0)) (hx : rd E x = .cv (.one (.imm (.sl s n ex cell)))) (hn : need E x)
    (hl : bound E 0 lo = some (l, pl)) (hh : bound E n hi = some (h, ph)) (hpl : pl) (hph : ph) (h0 : 0 ≤ l) (h1 : l ≤ h) (hhn : h ≤ n)
    (r : Bool) (hm : (mx = none ∧ (r = true → hi = none ∧ ex = true)) ∨ ∃ m m' pm, mx = some m ∧ hi ≠ none ∧ bound E 0 (some m) = some (m', pm) ∧ pm ∧ h ≤ m' ∧ m' ≤ n ∧ (r = true → m' = h)) :
    Yield P w O μ a o (.cv (.one (.imm (.sl s (h - l).toNat r fun i j => cell (l.toNat + i) j)))) := by
  have hu := under_sl (hT t _ hL)
  obtain ⟨L, hFe, hLs⟩ := hF
  have hsz := run_sizeOf (hT e L hFe) w
  have hlo := bound_sound hE hl hpl
  have hhi := bound_sound hE hh hph
  have hval : IRel w O (.sl s n ex cell) (a.eval x) := rd_one hE hx hn
  obtain ⟨l', rfl⟩ := Int.eq_ofNat_of_zero_le h0
  obtain ⟨h', rfl⟩ := Int.eq_ofNat_of_zero_le (Int.le_trans h0 h1)
  have hhi' : (hi.map a.eval = none ∧ h' = n) ∨ ∃ k, hi.map a.eval = some (.int k (h' : Int)) := hhi.imp (fun ⟨p, q⟩ => ⟨p, by omega⟩) id
  have hlo' : (lo.map a.eval = none ∧ l' = 0) ∨ ∃ k, lo.map a.eval = some (.int k (l' : Int)) := hlo.imp (fun ⟨p, q⟩ => ⟨p, by omega⟩) id
  have step : ∀ (base : Option Addr) (cap : Nat), a.eval x = .slice base n cap → n ≤ cap → (ex = true → cap = n) →
      ∃ m, h' ≤ m ∧ m ≤ cap ∧ (r = true → m = h') ∧ (execOp a.eval o).run P w = .ok (.value (.slice (if m = l' then base else base.map (·.add (l' * L.size))) (h' - l') (m - l'))) w := by
    intro base cap hv hc hex
    have hmx : ∃ m, h' ≤ m ∧ m ≤ cap ∧ (r = true → m = h') ∧ ((mx.map a.eval = none ∧ m = cap) ∨ (hi.map a.eval ≠ none ∧ ∃ k, mx.map a.eval = some (.int k (m : Int)))) := by
      rcases hm with ⟨rfl, hr⟩ | ⟨m, m', pm, rfl, hne, hbm, hpm, q1, q2, q3⟩
      · refine ⟨cap, by omega, Nat.le_refl _, fun h => ?_, .inl ⟨rfl, rfl⟩⟩
        obtain ⟨he, hx'⟩ := hr h
        have := hex hx'
        rcases hhi' with ⟨_, q⟩ | ⟨k, q⟩
        · omega
        · rw [he] at q; cases q
      · obtain ⟨m'', rfl⟩ := Int.eq_ofNat_of_zero_le (show 0 ≤ m' by omega)
        refine ⟨m'', by omega, by omega, fun h => by have := q3 h; omega, .inr ⟨?_, ?_⟩⟩
        · cases hi with
          | none => exact absurd rfl hne
          | some y => simp
        · rcases bound_sound hE hbm hpm with ⟨q, _⟩ | ⟨k, q⟩
          · cases q
          · exact ⟨k, q⟩
    obtain ⟨m, q1, q2, q3, q4⟩ := hmx
    refine ⟨m, q1, q2, q3, ?_⟩
    have hbs := run_bounds (P := P) (w := w) (len := n) hlo' hhi' q4 (by omega) q1 q2
    simp only [execOp, ho, Instr.sliceAt, Instr.slice, Sem.run_bind, run_underlying hu, Result.andThen_ok, hv, hbs, hsz, Sem.run_pure]
  rcases hval with ⟨hv, rfl⟩ | ⟨b, off, cap, hv, c1, c2, c3, c4, c5, c6⟩
  · obtain ⟨base, hv⟩ := hv
    obtain ⟨m, q1, q2, q3, q4⟩ := step base 0 hv (Nat.le_refl _) (fun _ => rfl)
    have e1 : h' - l' = 0 := by omega
    have e2 : m - l' = 0 := by omega
    rw [e1, e2] at q4
    exact ⟨_, q4, .inl ⟨⟨_, rfl⟩, by omega⟩⟩
  · obtain ⟨m, q1, q2, q3, q4⟩ := step _ cap hv c1 c3
    refine ⟨_, q4, ?_⟩
    have e1 : ((h' : Int) - l').toNat = h' - l' := by omega
    rw [e1]
    by_cases hc : m = l'
    · rw [if_pos hc]
      refine .inr ⟨b, off, m - l', rfl, by omega, by omega, fun hr => by have := q3 hr; omega, c4, c5, fun i hi j hj => ?_⟩
      omega
    · rw [if_neg hc]
      refine .inr ⟨b, off + l' * L.size, m - l', by simp [Addr.add_lit], by omega, by omega, fun hr => by have := q3 hr; omega, c4, c5, fun i hi j hj => ?_⟩
      have hs : L.size = s := by rcases hLs with hs | hs <;> omega
      obtain ⟨u, hu1, hu2⟩ := c6 (l' + i) (by omega) j hj
      refine ⟨u, ?_, by simpa using hu2⟩
      rw [← hu1, hs]
      congr 2
      rw [Nat.add_mul]; omega

theorem yield_len {O : Nat → Prop} {o : Oper} {t ty : TypeId} {x : Operand} {v : Value} {n : Nat} (hv : a.eval x = v) (ho : o.op = .call { callee := .builtin .len, args := #[x], argTypes := #[t] })
    (h : (Builtin.len_ #[t] ty #[v]).run P w = .ok (.int .i64 n) w) (hty : o.type = ty) : Yield P w O μ a o (.cv (iint n)) := by
  refine ⟨.int .i64 n, ?_, ⟨rfl, rfl⟩⟩
  simp [execOp, ho, resolve, invoke, builtin, hv, hty, h]

theorem run_len_str {t ty : TypeId} {s : ByteArray} (h : P.underlying t = some .string) : (Builtin.len_ #[t] ty #[.string s]).run P w = .ok (.int .i64 s.size) w := by
  simp [Builtin.len_, run_underlying h, goInt]

theorem run_len_sl {t e ty : TypeId} {b : Option Addr} {n c : Nat} (h : P.underlying t = some (.slice e)) : (Builtin.len_ #[t] ty #[.slice b n c]).run P w = .ok (.int .i64 n) w := by
  simp [Builtin.len_, run_underlying h, goInt]

theorem run_len_arr {t e ty : TypeId} {v : Value} {n : Nat} (h : P.underlying t = some (.array n e)) : (Builtin.len_ #[t] ty #[v]).run P w = .ok (.int .i64 n) w := by
  simp [Builtin.len_, run_underlying h, goInt]

/-- The fields of a struct's type are in the table. -/
def fieldsIn (T : Lays) (fs : List (Nat × TypeId)) : Bool := fs.all fun f => (T f.2).isSome

theorem fieldsIn_get {T : Lays} {fs : List (Nat × TypeId)} (h : fieldsIn T fs = true) (i off : Nat) (ft : TypeId) (hf : fs[i]? = some (off, ft)) : (T ft).isSome = true := by
  unfold fieldsIn at h
  rw [List.all_eq_true] at h
  exact h _ (List.mem_of_getElem? hf)

theorem evalV_sound (hT : LayOk P T) (hZ : ZeroOk T) (hS : ∀ t fs s b z, T t = some ⟨.st fs, s, b, z⟩ → fieldsIn T fs = true) (hM : MoreOk P T) (hH : HRel F w μ H nx) (hE : ERel w (Own F H μ) μ E a) {o : Oper} {x : SV} {vc : Prop} (h : evalV T H E o.op = some (x, vc)) (hv : vc) :
    Yield P w (Own F H μ) μ a o x := by
  cases ho : o.op with
  | move y => rw [ho] at h; simp only [evalV, Option.some.injEq, Prod.mk.injEq] at h; obtain ⟨rfl, rfl⟩ := h; exact yield_move hE (.inl ho) hv
  | assign y => rw [ho] at h; simp only [evalV, Option.some.injEq, Prod.mk.injEq] at h; obtain ⟨rfl, rfl⟩ := h; exact yield_move hE (.inr ho) hv
  | pick c y z =>
    rw [ho] at h; simp only [evalV] at h
    split at h
    · rename_i h1 h2 h3
      simp only [Option.some.injEq, Prod.mk.injEq] at h; obtain ⟨rfl, rfl⟩ := h
      exact yield_pick hE ho h1 h2 h3 hv.1 hv.2.1 hv.2.2
    · cases h
  | load t y =>
    rw [ho] at h; simp only [evalV] at h
    split at h
    · rename_i L p hL hp
      split at h
      · rename_i l q hl
        split at h
        · rename_i c hc
          simp only [Option.some.injEq, Prod.mk.injEq] at h; obtain ⟨rfl, rfl⟩ := h
          exact yield_load hT hH hE ho hL hp hl hc hv.1 hv.2
        · cases h
      · cases h
    · cases h
  | fieldAddr t y f =>
    rw [ho] at h; simp only [evalV] at h
    split at h
    · rename_i fs sz by_ z hL
      split at h
      · rename_i off ft hf
        split at h
        · rename_i L b e i j hF hy
          cases h0 : Nat.beq L.size 0 with
          | true => rw [h0] at h; simp at h
          | false =>
            rw [h0] at h; simp only [cond_false, Option.some.injEq, Prod.mk.injEq] at h; obtain ⟨rfl, rfl⟩ := h
            obtain ⟨m, hm, hval⟩ := rd_one hE hy hv
            exact yield_fieldAddr hT ho hL hf hF (fun e => by simp [e] at h0) hval ⟨m, hm, by rw [Nat.add_assoc]⟩
        · rename_i L n cell hF hy
          cases h0 : (Nat.beq L.size 0 || !(Nat.ble off n)) with
          | true => rw [h0] at h; simp at h
          | false =>
            rw [h0] at h; simp only [cond_false, Option.some.injEq, Prod.mk.injEq] at h; obtain ⟨rfl, rfl⟩ := h
            simp only [Bool.or_eq_false_iff, Bool.not_eq_false'] at h0
            have hle := Nat.le_of_ble_eq_true h0.2
            obtain ⟨b, o', hval, h4, h5, h6⟩ := rd_one hE hy hv
            refine yield_fieldAddr hT ho hL hf hF (fun e => by simp [e] at h0) hval ⟨b, o' + off, rfl, h4, h5, fun j hj => ?_⟩
            have := h6 (off + j) (by omega)
            simpa [Nat.add_assoc] using this
        · cases h
      · cases h
    · cases h
  | field t y f =>
    rw [ho] at h; simp only [evalV] at h
    split at h
    · rename_i fs sz by_ z hL
      split at h
      · rename_i off ft hf
        split at h
        · rename_i L l hF hy
          cases h0 : lenIs ((l.drop off).take L.size) L.size with
          | false => rw [h0] at h; simp at h
          | true =>
            rw [h0] at h; simp only [cond_true] at h
            split at h
            · rename_i c hc
              simp only [Option.some.injEq, Prod.mk.injEq] at h; obtain ⟨rfl, rfl⟩ := h
              exact yield_field hT hE ho hL hf hF hy hv h0 hc
            · cases h
        · cases h
      · cases h
    · cases h
  | index t y ix =>
    rw [ho] at h; simp only [evalV] at h
    split at h
    · rename_i n e sz by_ z k i hL hi
      split at h
      · rename_i L l hF hy
        cases h0 : lenIs ((l.drop (i.toNat * L.size)).take L.size) L.size with
        | false => rw [h0] at h; simp at h
        | true =>
          rw [h0] at h; simp only [cond_true] at h
          split at h
          · rename_i c hc
            simp only [Option.some.injEq, Prod.mk.injEq] at h; obtain ⟨rfl, rfl⟩ := h
            exact yield_index_arr hT hE ho hL hF hy hv.1 hi hv.2.1 hv.2.2.1 hv.2.2.2 h0 hc
          · cases h
      · cases h
    · cases h
  | indexAddr t y ix =>
    rw [ho] at h; simp only [evalV] at h
    split at h
    · rename_i e sz by_ z k i hL hi
      split at h
      · rename_i L s n ex cell hF hy
        cases h0 : Nat.beq s L.size with
        | false => rw [h0] at h; simp at h
        | true =>
          rw [h0] at h; simp only [cond_true, Option.some.injEq, Prod.mk.injEq] at h; obtain ⟨rfl, rfl⟩ := h
          obtain ⟨q1, q2, q3, q4⟩ := hv
          have hs := Nat.eq_of_beq_eq_true h0
          subst hs
          rcases rd_one hE hy q1 with ⟨_, hn⟩ | ⟨b, off, cap, hval, c1, c2, c3, c4, c5, c6⟩
          · omega
          · refine yield_indexAddr_sl hT hE ho hL hF hval hi q2 q3 q4 ⟨b, off + i.toNat * L.size, rfl, c4, c5, fun j hj => ?_⟩
            exact c6 i.toNat (by omega) j hj
      · rename_i L b s r j len app hF hy
        cases h0 : Nat.beq s L.size with
        | false => rw [h0] at h; simp at h
        | true =>
          rw [h0] at h; simp only [cond_true, Option.some.injEq, Prod.mk.injEq] at h; obtain ⟨rfl, rfl⟩ := h
          obtain ⟨q1, q2, q3, q4⟩ := hv
          have hs := Nat.eq_of_beq_eq_true h0
          subst hs
          rcases rd_one hE hy q1 with ⟨hn, _⟩ | ⟨m, cap, hm, hval, c1, c2, c3⟩
          · omega
          · refine yield_indexAddr_sl hT hE ho hL hF hval hi q2 q3 q4 ⟨m, hm, ?_⟩
            rw [Nat.add_mul]
            congr 3
            omega
      · cases h
    · rename_i n e sz by_ z k i hL hi
      split at h
      · rename_i L b e' i' j hF hy
        simp only [Option.some.injEq, Prod.mk.injEq] at h; obtain ⟨rfl, rfl⟩ := h
        obtain ⟨q1, q2, q3, q4⟩ := hv
        obtain ⟨m, hm, hval⟩ := rd_one hE hy q1
        exact yield_indexAddr_arr hT hE ho hL hF hval hi q2 q3 q4 ⟨m, hm, by rw [Nat.add_assoc]⟩
      · rename_i L m cell hF hy
        simp only [Option.some.injEq, Prod.mk.injEq] at h; obtain ⟨rfl, rfl⟩ := h
        obtain ⟨q1, q2, q3, q4⟩ := hv
        obtain ⟨b, o', hval, h4, h5, h6⟩ := rd_one hE hy q1
        refine yield_indexAddr_arr hT hE ho hL hF hval hi q2 q3 q4 ⟨b, o' + i.toNat * L.size, rfl, h4, h5, fun j hj => ?_⟩
        have := h6 (i.toNat * L.size + j) (by omega)
        simpa [Nat.add_assoc] using this
      · cases h
    · cases h
  | binOp op t y z t' =>
    rw [ho] at h; simp only [evalV] at h
    split at h
    · rename_i b hb
      simp only [Option.some.injEq, Prod.mk.injEq] at h; obtain ⟨rfl, rfl⟩ := h
      exact yield_aggB hT hM hE ho hb hv.1 hv.2
    · split at h
      · rename_i v p hb
        simp only [Option.some.injEq, Prod.mk.injEq] at h; obtain ⟨rfl, rfl⟩ := h
        exact yield_binOp hT hE ho hb hv.1 hv.2.1 hv.2.2
      · cases h
  | lookup t y ix ok =>
    rw [ho] at h; simp only [evalV] at h
    split at h
    · rename_i kt e sz by_ z m ka kks ks hL hy hix
      split at h
      · rename_i ka' kks' L ka2 kks2 va vn dom val hk hF hm
        cases hc : (bEq ka ka' && kindsEq kks kks' && (bEq ka ka2 && kindsEq kks kks2) && (bEq va (isAgg L.kind) && Nat.beq vn L.size)) with
        | false => rw [hc] at h; simp at h
        | true =>
          rw [hc] at h; simp only [cond_true] at h
          split at h
          · rename_i c hmk
            simp only [Option.some.injEq, Prod.mk.injEq] at h; obtain ⟨rfl, rfl⟩ := h
            simp only [Bool.and_eq_true] at hc
            obtain ⟨⟨⟨c1, c2⟩, c3, c4⟩, c5, c6⟩ := hc
            have c1 := bEq_eq c1; have c2 := kindsEq_eq c2; have c3 := bEq_eq c3; have c4 := kindsEq_eq c4; have c5 := bEq_eq c5; have c6 := Nat.eq_of_beq_eq_true c6
            subst c1; subst c2; subst c3; subst c4
            exact yield_lookup hT hZ hM hH hE ho hL hy hix hk hF hm c5 (by rw [c6]; exact (hM.size e L hF).symm) hmk hv.1 hv.2.1 hv.2.2
          · cases h
        
      · cases h
    · cases h
  | unOp op t y =>
    rw [ho] at h; simp only [evalV] at h
    split at h
    · rename_i b hy
      simp only [Option.some.injEq, Prod.mk.injEq] at h; obtain ⟨rfl, rfl⟩ := h
      exact yield_unOp hE ho hy hv (by simp [Op.unary]) rfl
    · rename_i k n hy
      simp only [Option.some.injEq, Prod.mk.injEq] at h; obtain ⟨rfl, rfl⟩ := h
      exact yield_unOp hE ho hy hv (by simp [Op.unary, Op.intArith]) rfl
    · cases h
  | convert s d y =>
    rw [ho] at h; simp only [evalV] at h
    split at h
    · rename_i L k sz by_ z n k' hs hd hy
      simp only [Option.some.injEq, Prod.mk.injEq] at h; obtain ⟨rfl, rfl⟩ := h
      exact yield_convert hT hE ho hs hd hy hv
    · cases h
  | extract y i =>
    rw [ho] at h; simp only [evalV] at h
    split at h
    · rename_i l hy
      split at h
      · rename_i c hc
        simp only [Option.some.injEq, Prod.mk.injEq] at h; obtain ⟨rfl, rfl⟩ := h
        exact yield_extract hE ho hy hc hv
      · cases h
    · cases h
  | nilCheck y =>
    rw [ho] at h; simp only [evalV] at h
    split at h
    · rename_i hy
      simp only [Option.some.injEq, Prod.mk.injEq] at h; obtain ⟨rfl, rfl⟩ := h
      exact yield_nilCheck hE ho hy hv (.inl ⟨_, _, _, _, rfl⟩)
    · rename_i hy
      simp only [Option.some.injEq, Prod.mk.injEq] at h; obtain ⟨rfl, rfl⟩ := h
      exact yield_nilCheck hE ho hy hv (.inr (.inl ⟨_, _, rfl⟩))
    · rename_i hy
      simp only [Option.some.injEq, Prod.mk.injEq] at h; obtain ⟨rfl, rfl⟩ := h
      exact yield_nilCheck hE ho hy hv (.inr (.inr ⟨_, _, _, _, _, rfl⟩))
    · cases h
  | build t parts =>
    rw [ho] at h; simp only [evalV] at h
    split at h
    · rename_i fs sz by_ z hL
      split at h
      · rename_i l p hf
        simp only [Option.some.injEq, Prod.mk.injEq] at h; obtain ⟨rfl, rfl⟩ := h
        exact yield_build_st hT hZ hE ho hL (fun i off ft => fieldsIn_get (hS _ _ _ _ _ hL) i off ft) hf hv
      · cases h
    · rename_i n e sz by_ z hL
      split at h
      · rename_i L hF
        split at h
        · rename_i l p hf
          simp only [Option.some.injEq, Prod.mk.injEq] at h; obtain ⟨rfl, rfl⟩ := h
          exact yield_build_arr hT hZ hE ho hL hF hf hv
        · cases h
      · cases h
    · cases h
  | makeFunc f first caps =>
    rw [ho] at h; simp only [evalV] at h
    split at h
    · rename_i l p m q h1 h2
      simp only [Option.some.injEq, Prod.mk.injEq] at h; obtain ⟨rfl, rfl⟩ := h
      exact yield_makeFunc hE ho h1 h2 hv.1 hv.2
    · cases h
  | slice t y lo hi mx =>
    rw [ho] at h; simp only [evalV] at h
    split at h
    · rename_i e sz by_ z s n ex cell hL hy
      split at h
      · rename_i L l pl h' ph hF hl hh
        cases h0 : (Nat.beq L.size s || Nat.beq n 0) with
        | false => rw [h0] at h; simp at h
        | true =>
          rw [h0] at h; simp only [cond_true] at h
          have hF' : ∃ L, T e = some L ∧ (L.size = s ∨ n = 0) := ⟨L, hF, by
            rw [Bool.or_eq_true] at h0
            exact h0.imp Nat.eq_of_beq_eq_true Nat.eq_of_beq_eq_true⟩
          split at h
          · simp only [Option.some.injEq, Prod.mk.injEq] at h; obtain ⟨rfl, rfl⟩ := h
            obtain ⟨q1, q2, q3, q4, q5, q6⟩ := hv
            refine yield_slice_imm hT hE ho hL hF' hy q1 hl hh q2 q3 q4 q5 q6 _ (.inl ⟨rfl, fun hr => ?_⟩)
            cases hi with
            | none => exact ⟨rfl, hr⟩
            | some y => cases hr
          · rename_i m
            split at h
            · rename_i y' m' pm hm
              simp only [Option.some.injEq, Prod.mk.injEq] at h; obtain ⟨rfl, rfl⟩ := h
              obtain ⟨q1, q2, q3, q4, q5, q6, q7, q8⟩ := hv
              exact yield_slice_imm hT hE ho hL hF' hy q1 hl hh q2 q3 q5 q6 (by omega) _ (.inr ⟨m, m', pm, rfl, by simp, hm, q4, q7, q8, fun hr => of_decide_eq_true hr⟩)
            · cases h
      · cases h
    · cases h
  | call c =>
    rw [ho] at h; simp only [evalV] at h
    obtain ⟨callee, args, argTypes⟩ := c
    split at h
    · rename_i hc
      simp only at hc; subst hc
      split at h
      · rename_i t y ht hargs
        simp only at ht hargs
        obtain rfl : argTypes = #[t] := Array.toList_inj.1 (by simpa using ht)
        obtain rfl : args = #[y] := Array.toList_inj.1 (by simpa using hargs)
        split at h
        · rename_i e sz by_ z s n ex cell hL hy
          simp only [Option.some.injEq, Prod.mk.injEq] at h; obtain ⟨rfl, rfl⟩ := h
          have hu := under_sl (hT t _ hL)
          rcases rd_one hE hy hv with ⟨⟨ad, hval⟩, rfl⟩ | ⟨b, off, cap, hval, _⟩
          · exact yield_len hval ho (run_len_sl hu) rfl
          · exact yield_len hval ho (run_len_sl hu) rfl
        · rename_i e sz by_ z b s r j n app hL hy
          simp only [Option.some.injEq, Prod.mk.injEq] at h; obtain ⟨rfl, rfl⟩ := h
          have hu := under_sl (hT t _ hL)
          rcases rd_one hE hy hv with ⟨rfl, hem⟩ | ⟨m, cap, hm, hval, _⟩
          · obtain ⟨ad, hval⟩ := hem
            exact yield_len hval ho (run_len_sl hu) rfl
          · exact yield_len hval ho (run_len_sl hu) rfl
        · rename_i sz by_ z s hL hy
          simp only [Option.some.injEq, Prod.mk.injEq] at h; obtain ⟨rfl, rfl⟩ := h
          have hu := under_str (hT t _ hL)
          exact yield_len (rd_val hE hy hv) ho (run_len_str hu) rfl
        · rename_i n e sz by_ z hL
          simp only [Option.some.injEq, Prod.mk.injEq] at h; obtain ⟨rfl, rfl⟩ := h
          have hu := under_arr (hT t _ hL)
          exact yield_len rfl ho (run_len_arr hu) rfl
        · cases h
      · cases h
    · rename_i hc
      simp only at hc; subst hc
      split at h
      · rename_i y z hargs
        simp only at hargs
        obtain rfl : args = #[y, z] := Array.toList_inj.1 (by simpa using hargs)
        split at h
        · rename_i k m k' n hy hz
          simp only [Option.some.injEq, Prod.mk.injEq] at h; obtain ⟨rfl, rfl⟩ := h
          have e1 := rd_val hE hy hv.1
          have e2 := rd_val hE hz hv.2
          exact ⟨.int k (if n < m then n else m), by simp [execOp, ho, resolve, invoke, builtin, e1, e2, Builtin.min_, Builtin.min2], ⟨rfl, rfl⟩⟩
        · cases h
      · cases h
    · rename_i hc
      simp only at hc; subst hc
      split at h
      · rename_i y z hargs
        simp only at hargs
        obtain rfl : args = #[y, z] := Array.toList_inj.1 (by simpa using hargs)
        split at h
        · rename_i k m k' n hy hz
          simp only [Option.some.injEq, Prod.mk.injEq] at h; obtain ⟨rfl, rfl⟩ := h
          have e1 := rd_val hE hy hv.1
          have e2 := rd_val hE hz hv.2
          exact ⟨.int k (if n > m then n else m), by simp [execOp, ho, resolve, invoke, builtin, e1, e2, Builtin.max_, Builtin.max2], ⟨rfl, rfl⟩⟩
        · cases h
      · cases h
    · cases h
  | _ => rw [ho] at h; simp [evalV] at h
end
end Go.Proofs.Ytndfcbcmeeemfaa.Abs
