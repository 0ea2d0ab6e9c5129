/-
  WHAT THE EVALUATOR ANSWERS FOR AN OPERATION THAT CHANGES NO MEMORY IS WHAT THE MODEL YIELDS (4): slices, lengths; the theorem 'evalV_sound' for all of them.
-/
import Derived.Test.YtmpddomgiplnmaaDoorX1
import Derived.Maps.RangeRun
import Derived.Lib.ConvBytes
import Derived.Laws.MakeOwn
namespace Go.Proofs.YtmpddomgiplnmaaDoor.Abs
open Go

section
variable {P : Program} {T : Lays} {F : Nat → Prop} {w : World} {μ : Nat → Option Nat} {H : Nat → Option ABlk} {nx : Nat} {E : Nat → SV} {a : Act}

theorem run_bounds {len cap : Nat} {lo hi mx : Option Value} {l h m : Nat} (hl : (lo = none ∧ l = 0) ∨ ∃ k, lo = some (.int k (l : Int))) (hh : (hi = none ∧ h = len) ∨ ∃ k, hi = some (.int k (h : Int)))
    (hm : (mx = none ∧ m = cap) ∨ (hi ≠ none ∧ ∃ k, mx = some (.int k (m : Int)))) (h1 : l ≤ h) (h2 : h ≤ m) (h3 : m ≤ cap) (sb : Bool := true) : (Instr.sliceBounds sb len cap lo hi mx).run P w = .ok (l, h, m) w := by
  have hb : ∀ (k : IntKind) (i y : Nat) (code : BoundsCode), i ≤ y → (Instr.sliceBound (.int k (i : Int)) y code).run P w = .ok i w := fun k i y code hi => by
    have := run_sliceBound (P := P) w k (i : Int) y code (by omega) (by omega)
    simpa using this
  have hbl : ∀ code, (match lo with | some v => Instr.sliceBound v h code | none => (pure 0 : Sem Nat)).run P w = .ok l w := by
    intro code
    rcases hl with ⟨rfl, rfl⟩ | ⟨k, rfl⟩
    · rfl
    · exact hb k l h code h1
  rcases hm with ⟨rfl, rfl⟩ | ⟨hne, km, rfl⟩
  · rcases hh with ⟨rfl, rfl⟩ | ⟨kh, rfl⟩
    · simp only [Instr.sliceBounds, Sem.run_bind, Sem.run_pure, Result.andThen_ok]
      have := hbl .sliceB
      rcases hl with ⟨rfl, rfl⟩ | ⟨k, rfl⟩
      · rfl
      · simp only [Sem.run_bind, hb k l h _ h1, Result.andThen_ok, Sem.run_pure, Option.isSome_none]
    · simp only [Instr.sliceBounds, Sem.run_bind, Sem.run_pure, Result.andThen_ok, hb kh h m _ h2]
      rcases hl with ⟨rfl, rfl⟩ | ⟨k, rfl⟩
      · rfl
      · simp only [Sem.run_bind, hb k l h _ h1, Result.andThen_ok, Sem.run_pure]
  · rcases hh with ⟨rfl, rfl⟩ | ⟨kh, rfl⟩
    · exact absurd rfl hne
    · simp only [Instr.sliceBounds, Sem.run_bind, Result.andThen_ok, hb km m cap _ h3, hb kh h m _ h2]
      rcases hl with ⟨rfl, rfl⟩ | ⟨k, rfl⟩
      · rfl
      · simp only [Sem.run_bind, hb k l h _ h1, Result.andThen_ok, Sem.run_pure]

theorem bound_sound {O : Nat → Prop} (hE : ERel w O μ E a) {d : Int} {y : Option Operand} {v : Int} {p : Prop} (hb : bound E d y = some (v, p)) (hp : p) : (y.map a.eval = none ∧ v = d) ∨ ∃ k, y.map a.eval = some (.int k v) := by
  cases y with
  | none => simp [bound] at hb; exact .inl ⟨rfl, hb.1.symm⟩
  | some y =>
    simp only [bound] at hb
    split at hb
    · rename_i k q hq
      simp only [Option.some.injEq, Prod.mk.injEq] at hb
      obtain ⟨rfl, rfl⟩ := hb
      exact .inr ⟨k, by rw [Option.map_some, rd_val hE hq hp]⟩
    · cases hb

/-- Bounds that hold, and the capacity from the new beginning on. -/
def capFact (n cap : Nat) (h : Nat) (ex r : Bool) (hi mx : Option Operand) (m : Nat) : Prop :=
  (mx = none ∧ m = cap ∧ (r = true → hi = none ∧ ex = true)) ∨ (m ≤ n ∧ (r = true → m = h))

theorem yield_slice_imm {O : Nat → Prop} {o : Oper} {t e : TypeId} {x : Operand} {lo hi mx : Option Operand} {sz by_ : Nat} {z : List Value} {s n : Nat} {ex : Bool} {cell : Nat → Nat → IV} {l h : Int} {pl ph : Prop}
    (hT : LayOk P T) (hE : ERel w O μ E a) (ho : o.op = .slice t x lo hi mx) (hL : T t = some ⟨.sl e, sz, by_, z⟩) (hF : ∃ L, T e = some L ∧ (L.size = s ∨ n = 0)) (hx : rd E x = .cv (.one (.imm (.sl s n ex cell)))) (hn : need E x)
    (hl : bound E 0 lo = some (l, pl)) (hh : bound E n hi = some (h, ph)) (hpl : pl) (hph : ph) (h0 : 0 ≤ l) (h1 : l ≤ h) (hhn : h ≤ n)
    (r : Bool) (hm : (mx = none ∧ (r = true → hi = none ∧ ex = true)) ∨ ∃ m m' pm, mx = some m ∧ hi ≠ none ∧ bound E 0 (some m) = some (m', pm) ∧ pm ∧ h ≤ m' ∧ m' ≤ n ∧ (r = true → m' = h)) :
    Yield P w O μ a o (.cv (.one (.imm (.sl s (h - l).toNat r fun i j => cell (l.toNat + i) j)))) := by
  have hu := under_sl (hT t _ hL)
  obtain ⟨L, hFe, hLs⟩ := hF
  have hsz := run_sizeOf (hT e L hFe) w
  have hlo := bound_sound hE hl hpl
  have hhi := bound_sound hE hh hph
  have hval : IRel w O (.sl s n ex cell) (a.eval x) := rd_one hE hx hn
  obtain ⟨l', rfl⟩ := Int.eq_ofNat_of_zero_le h0
  obtain ⟨h', rfl⟩ := Int.eq_ofNat_of_zero_le (Int.le_trans h0 h1)
  have hhi' : (hi.map a.eval = none ∧ h' = n) ∨ ∃ k, hi.map a.eval = some (.int k (h' : Int)) := hhi.imp (fun ⟨p, q⟩ => ⟨p, by omega⟩) id
  have hlo' : (lo.map a.eval = none ∧ l' = 0) ∨ ∃ k, lo.map a.eval = some (.int k (l' : Int)) := hlo.imp (fun ⟨p, q⟩ => ⟨p, by omega⟩) id
  have step : ∀ (base : Option Addr) (cap : Nat), a.eval x = .slice base n cap → n ≤ cap → (ex = true → cap = n) →
      ∃ m, h' ≤ m ∧ m ≤ cap ∧ (r = true → m = h') ∧ (execOp a.eval o).run P w = .ok (.value (.slice (if m = l' then base else base.map (·.add (l' * L.size))) (h' - l') (m - l'))) w := by
    intro base cap hv hc hex
    have hmx : ∃ m, h' ≤ m ∧ m ≤ cap ∧ (r = true → m = h') ∧ ((mx.map a.eval = none ∧ m = cap) ∨ (hi.map a.eval ≠ none ∧ ∃ k, mx.map a.eval = some (.int k (m : Int)))) := by
      rcases hm with ⟨rfl, hr⟩ | ⟨m, m', pm, rfl, hne, hbm, hpm, q1, q2, q3⟩
      · refine ⟨cap, by omega, Nat.le_refl _, fun h => ?_, .inl ⟨rfl, rfl⟩⟩
        obtain ⟨he, hx'⟩ := hr h
        have := hex hx'
        rcases hhi' with ⟨_, q⟩ | ⟨k, q⟩
        · omega
        · rw [he] at q; cases q
      · obtain ⟨m'', rfl⟩ := Int.eq_ofNat_of_zero_le (show 0 ≤ m' by omega)
        refine ⟨m'', by omega, by omega, fun h => by have := q3 h; omega, .inr ⟨?_, ?_⟩⟩
        · cases hi with
          | none => exact absurd rfl hne
          | some y => simp
        · rcases bound_sound hE hbm hpm with ⟨q, _⟩ | ⟨k, q⟩
          · cases q
          · exact ⟨k, q⟩
    obtain ⟨m, q1, q2, q3, q4⟩ := hmx
    refine ⟨m, q1, q2, q3, ?_⟩
    have hbs := run_bounds (P := P) (w := w) (len := n) hlo' hhi' q4 (by omega) q1 q2
    simp only [execOp, ho, Instr.sliceAt, Instr.slice, Sem.run_bind, run_underlying hu, Result.andThen_ok, hv, hbs, hsz, Sem.run_pure]
  rcases hval with ⟨hv, rfl⟩ | ⟨b, off, cap, hv, c1, c2, c3, c4, c5, c6⟩
  · obtain ⟨base, hv⟩ := hv
    obtain ⟨m, q1, q2, q3, q4⟩ := step base 0 hv (Nat.le_refl _) (fun _ => rfl)
    have e1 : h' - l' = 0 := by omega
    have e2 : m - l' = 0 := by omega
    rw [e1, e2] at q4
    exact ⟨_, q4, .inl ⟨⟨_, rfl⟩, by omega⟩⟩
  · obtain ⟨m, q1, q2, q3, q4⟩ := step _ cap hv c1 c3
    refine ⟨_, q4, ?_⟩
    have e1 : ((h' : Int) - l').toNat = h' - l' := by omega
    rw [e1]
    by_cases hc : m = l'
    · rw [if_pos hc]
      refine .inr ⟨b, off, m - l', rfl, by omega, by omega, fun hr => by have := q3 hr; omega, c4, c5, fun i hi j hj => ?_⟩
      omega
    · rw [if_neg hc]
      refine .inr ⟨b, off + l' * L.size, m - l', by simp [Addr.add_lit], by omega, by omega, fun hr => by have := q3 hr; omega, c4, c5, fun i hi j hj => ?_⟩
      have hs : L.size = s := by rcases hLs with hs | hs <;> omega
      obtain ⟨u, hu1, hu2⟩ := c6 (l' + i) (by omega) j hj
      refine ⟨u, ?_, by simpa using hu2⟩
      rw [← hu1, hs]
      congr 2
      rw [Nat.add_mul]; omega

theorem yield_slice_osl {F : Nat → Prop} {H : Nat → Option ABlk} {o : Oper} {t e : TypeId} {x : Operand} {lo hi : Option Operand} {sz by_ : Nat} {z : List Value} {b0 s r0 n : Nat} {app : Bool} {l h : Int} {pl ph : Prop} {L : Lay}
    (hT : LayOk P T) (hE : ERel w (Own F H μ) μ E a) (ho : o.op = .slice t x lo hi none) (hL : T t = some ⟨.sl e, sz, by_, z⟩) (hFe : T e = some L) (hLs : L.size = s) (hx : rd E x = .cv (.one (.osl b0 s r0 0 n app))) (hn : need E x)
    (hl : bound E 0 lo = some (l, pl)) (hh : bound E n hi = some (h, ph)) (hpl : pl) (hph : ph) (h0 : 0 ≤ l) (h1 : l ≤ h) (hhn : h ≤ n) :
    Yield P w (Own F H μ) μ a o (.cv (.one (.osl b0 s (r0 + l.toNat) 0 (h - l).toNat (bif isNoneB lo then app else false)))) := by
  have hu := under_sl (hT t _ hL)
  have hsz := run_sizeOf (hT e L hFe) w
  have hlo := bound_sound hE hl hpl
  have hhi := bound_sound hE hh hph
  have hval : ARel w (Own F H μ) μ (.osl b0 s r0 0 n app) (a.eval x) := rd_one hE hx hn
  obtain ⟨l', rfl⟩ := Int.eq_ofNat_of_zero_le h0
  obtain ⟨h', rfl⟩ := Int.eq_ofNat_of_zero_le (Int.le_trans h0 h1)
  have hhi' : (hi.map a.eval = none ∧ h' = n) ∨ ∃ k, hi.map a.eval = some (.int k (h' : Int)) := hhi.imp (fun ⟨p, q⟩ => ⟨p, by omega⟩) id
  have hlo' : (lo.map a.eval = none ∧ l' = 0) ∨ ∃ k, lo.map a.eval = some (.int k (l' : Int)) := hlo.imp (fun ⟨p, q⟩ => ⟨p, by omega⟩) id
  have hlz : (bif isNoneB lo then app else false) = true → l' = 0 ∧ app = true := by
    cases lo with
    | none =>
      intro ha
      simp only [bound, Option.some.injEq, Prod.mk.injEq] at hl
      exact ⟨by omega, ha⟩
    | some y => intro ha; cases ha
  have step : ∀ (base : Option Addr) (cap : Nat), a.eval x = .slice base n cap → n ≤ cap →
      (execOp a.eval o).run P w = .ok (.value (.slice (if cap = l' then base else base.map (·.add (l' * L.size))) (h' - l') (cap - l'))) w := by
    intro base cap hv hc
    have hbs := run_bounds (P := P) (w := w) (len := n) (mx := none) (m := cap) (cap := cap) hlo' hhi' (.inl ⟨rfl, rfl⟩) (by omega) (by omega) (Nat.le_refl _)
    simp only [execOp, ho, Instr.sliceAt, Instr.slice, Sem.run_bind, run_underlying hu, Result.andThen_ok, hv, Option.map_none, hbs, hsz, Sem.run_pure]
  have e1 : ((h' : Int) - l').toNat = h' - l' := by omega
  have e2 : (l' : Int).toNat = l' := by omega
  rcases hval with ⟨hn0, base, hv⟩ | ⟨m, cap, hm, hv, c1, c2, c3⟩
  · subst hn0
    refine ⟨_, step base 0 hv (Nat.le_refl _), .inl ⟨by omega, ?_⟩⟩
    rw [show h' - l' = 0 by omega, show 0 - l' = 0 by omega]
    exact ⟨_, rfl⟩
  · refine ⟨_, step _ cap hv c1, ?_⟩
    rw [e1, e2]
    by_cases hc : cap = l'
    · rw [if_pos hc]
      refine .inl ⟨by omega, ?_⟩
      rw [show h' - l' = 0 by omega, show cap - l' = 0 by omega]
      exact ⟨_, rfl⟩
    · rw [if_neg hc]
      refine .inr ⟨m, cap - l', hm, ?_, by omega, by omega, fun ha => ?_⟩
      · rw [hLs]
        simp only [Option.map_some, Addr.add_lit]
        congr 3
        rw [Nat.add_mul]
        omega
      · obtain ⟨hz, ha'⟩ := hlz ha
        subst hz
        obtain ⟨d1, d2, cur, ty, d3, d4⟩ := c3 ha'
        exact ⟨by omega, rfl, cur, ty, d3, by simpa using d4⟩

theorem keyInts_get {k : IntKind} : ∀ (l : List AV) (ks : List IntKind) (ns : List Int), keyInts l = some (ks, ns) → allKind k ks = true → l.length = ns.length ∧ ∀ i, i < l.length → (l.drop i).take 1 = [.imm (.val (.int k (ns.getD i 0)))]
  | [], ks, ns, h, _ => by
    simp only [keyInts, Option.some.injEq, Prod.mk.injEq] at h
    obtain ⟨rfl, rfl⟩ := h
    exact ⟨rfl, fun i hi => absurd hi (Nat.not_lt_zero i)⟩
  | x :: l, ks, ns, h, ha => by
    unfold keyInts at h
    split at h
    · rename_i heq
      cases heq
    · rename_i k' n l' heq
      simp only [List.cons.injEq] at heq
      obtain ⟨rfl, rfl⟩ := heq
      split at h
      · rename_i ks' ns' h'
        simp only [Option.some.injEq, Prod.mk.injEq] at h
        obtain ⟨rfl, rfl⟩ := h
        simp only [allKind] at ha
        cases hb : kindEq k k' with
        | false => rw [hb] at ha; cases ha
        | true =>
          rw [hb] at ha
          obtain rfl := kindEq_eq hb
          obtain ⟨h1, h2⟩ := keyInts_get l ks' ns' h' ha
          refine ⟨by simp [h1], fun i hi => ?_⟩
          cases i with
          | zero => rfl
          | succ i => simpa using h2 i (by simpa using hi)
      · cases h
    · cases h
theorem intsOf_get {n : Nat} {L : Lay} {l : List AV} {k : IntKind} {ns : List Int} (h : intsOf n L l = some (k, ns)) {i : Nat} (hi : i < n) : L.size = 1 ∧ isAgg L.kind = false ∧ (l.drop i).take 1 = [.imm (.val (.int k (ns.getD i 0)))] ∧ True := by
  unfold intsOf at h
  split at h
  · rename_i q hk
    cases hb : (Nat.beq L.size 1 && lenIs l n) with
    | false => rw [hb] at h; simp at h
    | true =>
      rw [hb] at h
      simp only [cond_true] at h
      rw [Bool.and_eq_true] at hb
      split at h
      · rename_i ks ns' hki
        cases ha : allKind q ks with
        | false => rw [ha] at h; simp at h
        | true =>
          rw [ha] at h
          simp only [cond_true, Option.some.injEq, Prod.mk.injEq] at h
          obtain ⟨rfl, rfl⟩ := h
          obtain ⟨h1, h2⟩ := keyInts_get l ks ns' hki ha
          exact ⟨Nat.eq_of_beq_eq_true hb.1, by rw [hk]; rfl, h2 i (by rw [lenIs_eq l n hb.2]; exact hi), trivial⟩
      · cases h
  · cases h

/-- A slice of an array that stays. -/
theorem yield_slice_arr {O : Nat → Prop} {o : Oper} {t e : TypeId} {x : Operand} {lo hi : Option Operand} {n sz by_ : Nat} {z : List Value} {k : Nat} {cell : Nat → IV} {l h : Int} {pl ph : Prop} {L : Lay}
    (hT : LayOk P T) (hE : ERel w O μ E a) (ho : o.op = .slice t x lo hi none) (hL : T t = some ⟨.arr n e, sz, by_, z⟩) (hFe : T e = some L) (hx : rd E x = .cv (.one (.vptr k cell))) (hn : need E x) (hk : n * L.size ≤ k) (hm : n ≤ 1000000)
    (hl : bound E 0 lo = some (l, pl)) (hh : bound E n hi = some (h, ph)) (hpl : pl) (hph : ph) (h0 : 0 ≤ l) (h1 : l ≤ h) (hhn : h ≤ n) :
    Yield P w O μ a o (.cv (.one (.imm (.sl L.size (h - l).toNat (isNoneB hi) fun i j => cell ((l.toNat + i) * L.size + j))))) := by
  have hu := under_arr (hT t _ hL)
  have hsz := run_sizeOf (hT e L hFe) w
  have hlo := bound_sound hE hl hpl
  have hhi := bound_sound hE hh hph
  have hval : ARel w O μ (.vptr k cell) (a.eval x) := rd_one hE hx hn
  obtain ⟨l', rfl⟩ := Int.eq_ofNat_of_zero_le h0
  obtain ⟨h', rfl⟩ := Int.eq_ofNat_of_zero_le (Int.le_trans h0 h1)
  have hhi' : (hi.map a.eval = none ∧ h' = n) ∨ ∃ k, hi.map a.eval = some (.int k (h' : Int)) := hhi.imp (fun ⟨p, q⟩ => ⟨p, by omega⟩) id
  have hlo' : (lo.map a.eval = none ∧ l' = 0) ∨ ∃ k, lo.map a.eval = some (.int k (l' : Int)) := hlo.imp (fun ⟨p, q⟩ => ⟨p, by omega⟩) id
  obtain ⟨b, off, hv, c1, c2, c3⟩ := hval
  have hbs := run_bounds (P := P) (w := w) (len := n) (mx := none) (m := n) (cap := n) hlo' hhi' (.inl ⟨rfl, rfl⟩) (by omega) (by omega) (Nat.le_refl _) false
  have e1 : ((h' : Int) - l').toNat = h' - l' := by omega
  have hrun : (execOp a.eval o).run P w = .ok (.value (.slice (some (if n = l' then ⟨b, off, none⟩ else (Addr.mk b off none).add (l' * L.size))) (h' - l') (n - l'))) w := by
    simp only [execOp, ho, Instr.sliceAt, Sem.run_bind, run_underlying hu, Result.andThen_ok, hv, Instr.sureAddr, Option.map_none, hbs, hsz, Sem.run_pure]
  refine ⟨_, hrun, .inr ?_⟩
  rw [e1]
  have hex : isNoneB hi = true → h' = n := by
    cases hi with
    | none => intro _; simp only [bound, Option.some.injEq, Prod.mk.injEq] at hh; omega
    | some y => intro h; cases h
  have hmx : n - l' ≤ maxLen := by simp only [maxLen]; omega
  by_cases hc : n = l'
  · rw [if_pos hc]
    exact ⟨b, off, n - l', rfl, by omega, hmx, fun hr => by have := hex hr; omega, c1, c2, fun i hi j hj => by omega⟩
  · rw [if_neg hc, Addr.add_lit]
    refine ⟨b, off + l' * L.size, n - l', rfl, by omega, hmx, fun hr => by have := hex hr; omega, c1, c2, fun i hi j hj => ?_⟩
    have h4 : (l' + i) * L.size + j < k := by
      have : (l' + i + 1) * L.size ≤ n * L.size := Nat.mul_le_mul_right _ (by omega)
      rw [Nat.add_mul, Nat.one_mul] at this
      omega
    obtain ⟨u, hu1, hu2⟩ := c3 _ h4
    refine ⟨u, ?_, by simpa using hu2⟩
    rw [← hu1]
    congr 2
    rw [Nat.add_mul]
    omega

/-- A part of a string. -/
theorem yield_slice_str {O : Nat → Prop} {o : Oper} {t : TypeId} {x : Operand} {lo hi : Option Operand} {sz by_ : Nat} {z : List Value} {s : ByteArray} {l h : Int} {pl ph : Prop}
    (hT : LayOk P T) (hE : ERel w O μ E a) (ho : o.op = .slice t x lo hi none) (hL : T t = some ⟨.str, sz, by_, z⟩) (hx : rd E x = .cv (.one (.imm (.val (.string s))))) (hn : need E x)
    (hl : bound E 0 lo = some (l, pl)) (hh : bound E s.size hi = some (h, ph)) (hpl : pl) (hph : ph) (h0 : 0 ≤ l) (h1 : l ≤ h) (hhn : h ≤ s.size) :
    Yield P w O μ a o (.cv (.one (.imm (.val (.string (s.extract l.toNat h.toNat)))))) := by
  have hu := under_str (hT t _ hL)
  have hlo := bound_sound hE hl hpl
  have hhi := bound_sound hE hh hph
  have hval : IRel w O (.val (.string s)) (a.eval x) := rd_one hE hx hn
  obtain ⟨l', rfl⟩ := Int.eq_ofNat_of_zero_le h0
  obtain ⟨h', rfl⟩ := Int.eq_ofNat_of_zero_le (Int.le_trans h0 h1)
  have hhi' : (hi.map a.eval = none ∧ h' = s.size) ∨ ∃ k, hi.map a.eval = some (.int k (h' : Int)) := hhi.imp (fun ⟨p, q⟩ => ⟨p, by omega⟩) id
  have hlo' : (lo.map a.eval = none ∧ l' = 0) ∨ ∃ k, lo.map a.eval = some (.int k (l' : Int)) := hlo.imp (fun ⟨p, q⟩ => ⟨p, by omega⟩) id
  have hbs := run_bounds (P := P) (w := w) (len := s.size) (mx := none) (m := s.size) (cap := s.size) hlo' hhi' (.inl ⟨rfl, rfl⟩) (by omega) (by omega) (Nat.le_refl _) false
  refine ⟨.string (s.extract l' h'), ?_, ⟨rfl, rfl⟩⟩
  simp [execOp, ho, Instr.sliceAt, Instr.slice, run_underlying hu, hval.1, hbs]

/-- A byte of a string. -/
theorem yield_index_str {O : Nat → Prop} {o : Oper} {t : TypeId} {x ix : Operand} {sz by_ : Nat} {z : List Value} {s : ByteArray} {k : IntKind} {i : Int} (hT : LayOk P T) (hE : ERel w O μ E a)
    (ho : o.op = .index t x ix) (hL : T t = some ⟨.str, sz, by_, z⟩) (hx : rd E x = .cv (.one (.imm (.val (.string s))))) (hn : need E x) (hi : rd E ix = .cv (.one (.imm (.val (.int k i))))) (hni : need E ix) (h0 : 0 ≤ i) (h1 : i < s.size) : Yield P w O μ a o (.cv (ione (.int .u8 (s.data.getD i.toNat 0).toNat))) := by
  have hu := under_str (hT t _ hL)
  have hval : IRel w O (.val (.string s)) (a.eval x) := rd_one hE hx hn
  have hiv := rd_val hE hi hni
  have hlt : i.toNat < s.size := by omega
  have hb : s[i.toNat]? = some (s.data.getD i.toNat 0) := by
    have hlt' : i.toNat < s.data.size := hlt
    rw [getElem?_pos s i.toNat hlt]
    simp [ByteArray.getElem_eq_getElem_data, Array.getD]
    intro h
    exact absurd hlt (by omega)
  refine ⟨.int .u8 (s.data.getD i.toNat 0).toNat, ?_, ⟨rfl, rfl⟩⟩
  simp [execOp, ho, hval.1, hiv, Instr.index, asIntOf, run_underlying hu, h0, hb]
theorem lastK_some : ∀ {l : List (List Int)} {ks : List Int}, lastK l = some ks → ∃ l', l.reverse = l' ++ [ks]
  | x :: l, ks, h => by
    simp only [lastK, Option.some.injEq] at h
    exact ⟨l.reverse, by rw [h, List.reverse_cons]⟩
/-- An entry that an iterator gave. -/
theorem yield_entry {F : Nat → Prop} {H : Nat → Option ABlk} {nx : Nat} {o : Oper} {x : Operand} {b e i j : Nat} {ka va : Bool} {kks : List IntKind} {vn : Nat} {dom : List Int → Bool} {val : List Int → Nat → IV} {seen : List (List Int)} {ks : List Int} {k c : CV} (hH : HRel F w μ H nx) (hE : ERel w (Own F H μ) μ E a)
    (ho : o.op = .entry x) (hx : rd E x = .cv (.one (.own b e i j))) (hn : need E x) (h0 : i * e + j = 0) (hB : H b = some (.it ka kks va vn dom val seen)) (hl : lastK seen = some ks) (hk : keyC ka kks ks = some k) (hc : mk va ((List.range vn).map fun j => .imm (val ks j)) = some c) : Yield P w (Own F H μ) μ a o (.tup [k, c]) := by
  obtain ⟨r, hr, hv⟩ := rd_one hE hx hn
  rw [h0] at hv
  obtain ⟨r2, m, es, clock, ms, q1, q2, q3, q4, q5, q6, q7, q8⟩ := (hH.blk b _ hB).2
  obtain rfl : r2 = r := by rw [hr] at q1; exact (Option.some.inj q1).symm
  obtain ⟨l', hl'⟩ := lastK_some hl
  rw [hl', List.map_append, List.map_cons, List.map_nil] at q6
  obtain ⟨ms', me, rfl, hm1, hm2⟩ := List.map_eq_append_iff.1 q6
  obtain ⟨e0, rfl, hm3⟩ : ∃ e0, me = [e0] ∧ e0.key = keyV ka kks ks := by
    cases me with
    | nil => simp at hm2
    | cons e0 l =>
      cases l with
      | nil => exact ⟨e0, rfl, by simpa using hm2⟩
      | cons _ _ => simp at hm2
  have he := q5 e0 (by simp)
  have hnd : (es.toList.map (·.born)).Nodup := List.pairwise_map.2 q4.dist
  have hrun := run_entry_at (P := P) w r2 m clock (ms'.map (·.born)).toArray es clock e0 (by rw [q2, List.map_append]; simp) q3 he hnd
  obtain ⟨m2, es2, clock2, e2, g1, g2, g3, g4, g5, g6⟩ := q8
  obtain rfl : m = m2 := by cases e2; rfl
  rw [q3] at g3
  cases g3
  obtain ⟨ks', p1, p2, p3, cs, p4, p5, p6⟩ := g5 e0 he
  refine ⟨.tuple #[e0.key, e0.val], ?_, ?_⟩
  · simp only [execOp, ho, hv, Sem.run_bind, hrun, Result.andThen_ok, Sem.run_pure]
  · have hkr : CRel w (Own F H μ) μ k e0.key ∧ ks' = ks := by
      unfold keyC at hk
      split at hk
      · rename_i k0 n0
        cases hk
        match ks', p1 with
        | [n1], _ =>
          rw [hm3] at p3
          have : n0 = n1 := by
            have h : Value.int k0 n0 = Value.int k0 n1 := p3
            cases h
            rfl
          subst this
          exact ⟨⟨hm3, rfl⟩, rfl⟩
      · cases hk
    obtain ⟨hk1, rfl⟩ := hkr
    have hlr : LRel w (Own F H μ) μ ((List.range vn).map fun j => AV.imm (val ks' j)) cs := by
      refine ⟨by simp [p5], fun j y u hy hu => ?_⟩
      have hj : j < vn := by rw [← p5]; exact (List.getElem?_eq_some_iff.1 hu).1
      simp [hj] at hy
      subst hy
      exact p6 j u hu
    obtain ⟨v, hv1, hv2⟩ := mk_sound hc hlr
    have hv3 : v = e0.val := by
      rw [p4]
      rcases hv2 with ⟨rfl, rfl⟩ | ⟨rfl, rfl⟩ <;> rfl
    subst hv3
    refine ⟨[e0.key, e0.val], rfl, rfl, fun j y u hy hu => ?_⟩
    match j, hy, hu with
    | 0, hy, hu => cases hy; cases hu; exact hk1
    | 1, hy, hu => cases hy; cases hu; exact hv1
theorem u8L_map : ∀ {l : List IV} {ks : List Int}, u8L l = some ks → l = ks.map fun k => .val (.int .u8 k)
  | [], ks, h => by
    simp only [u8L, Option.some.injEq] at h
    subst h
    rfl
  | x :: l, ks, h => by
    unfold u8L at h
    split at h
    · cases h
      contradiction
    · rename_i k l' heq
      split at h
      · rename_i m hm
        cases heq
        cases h
        rw [u8L_map hm]
        rfl
      · cases h
    · cases h
/-- Bytes of a row of our own, as a string. -/
theorem yield_bytes {F : Nat → Prop} {H : Nat → Option ABlk} {nx : Nat} {o : Oper} {s d e ty : TypeId} {x : Operand} {b r n N sz by_ sz' by' sz2 by2 : Nat} {z z' z2 : List Value} {app : Bool} {cell : Nat → Nat → IV} {ks : List Int} (hT : LayOk P T) (hH : HRel F w μ H nx) (hE : ERel w (Own F H μ) μ E a)
    (ho : o.op = .convert s d x) (hs : T s = some ⟨.sl e, sz, by_, z⟩) (hd : T d = some ⟨.str, sz', by', z'⟩) (he : T e = some ⟨.int .u8, sz2, by2, z2⟩) (hx : rd E x = .cv (.one (.osl b 1 r 0 n app))) (hn : need E x) (hB : H b = some (.rows ty 1 N cell)) (hks : u8L ((List.range n).map fun i => cell (plusN r i) 0) = some ks) (hN : r + n ≤ N) :
    Yield P w (Own F H μ) μ a o (.cv (ione (.string (strOfNums ks)))) := by
  have hus := under_sl (hT s _ hs)
  have hud := under_str (hT d _ hd)
  have hue := under_int (hT e _ he)
  have hm := u8L_map hks
  have hlen : ks.length = n := by
    have := congrArg List.length hm
    simpa using this.symm
  refine ⟨.string (strOfNums ks), ?_, ⟨rfl, rfl⟩⟩
  rcases rd_one hE hx hn with ⟨rfl, ad, hv⟩ | ⟨m, cap, hm1, hv, _⟩
  · have : ks = [] := List.length_eq_zero_iff.1 hlen
    subst this
    have hrun : (convert s d (.slice ad 0 0)).run P w = .ok (.string (strOfNums [])) w := by
      rw [run_convert_bytes_string w s d e _ 0 0 hus hue hud]
      cases ad with
      | none => rfl
      | some ad =>
        rw [run_bytesToString w ad 0 0 [] (by simp [loadCells, loadCellsFrom])]
        rfl
    simp only [execOp, ho, hv, Sem.run_bind, hrun, Result.andThen_ok, Sem.run_pure]
  · rcases (hH.blk b _ hB).2 with ⟨h1, _⟩ | ⟨m2, cur, h1, h2, h3, h4⟩
    · rw [hm1] at h1
      cases h1
    · obtain rfl : m2 = m := by rw [hm1] at h1; exact (Option.some.inj h1).symm
      suffices hrun : (convert s d (.slice (some ⟨m2, r * 1 + 0, none⟩) n cap)).run P w = .ok (.string (strOfNums ks)) w by
        simp only [execOp, ho, hv, Sem.run_bind, hrun, Result.andThen_ok, Sem.run_pure]
      refine run_convert_bytes_arg w s e hus hue m2 (r * 1 + 0) n cap ks hlen (fun i hi => ?_) d hud
      obtain ⟨u, hu1, hu2⟩ := h4 (r + i) (by omega) 0 (by omega)
      have hci : cell (r + i) 0 = .val (.int .u8 (ks.getD i 0)) := by
        have h5 := congrArg (fun l : List IV => l[i]?) hm
        have hi2 : i < ks.length := by omega
        simp [hi, hi2, plusN_eq] at h5
        rw [h5]
        simp [List.getD, hi2]
      rw [hci] at hu2
      obtain ⟨rfl, _⟩ := hu2
      have e1 : r * 1 + 0 + i = (r + i) * 1 + 0 := by omega
      rw [e1]
      simp only [World.cell?, h2]
      simpa using hu1

theorem yield_len {O : Nat → Prop} {o : Oper} {t ty : TypeId} {x : Operand} {v : Value} {n : Nat} (hv : a.eval x = v) (ho : o.op = .call { callee := .builtin .len, args := #[x], argTypes := #[t] })
    (h : (Builtin.len_ #[t] ty #[v]).run P w = .ok (.int .i64 n) w) (hty : o.type = ty) : Yield P w O μ a o (.cv (iint n)) := by
  refine ⟨.int .i64 n, ?_, ⟨rfl, rfl⟩⟩
  simp [execOp, ho, resolve, invoke, builtin, hv, hty, h]

theorem run_len_str {t ty : TypeId} {s : ByteArray} (h : P.underlying t = some .string) : (Builtin.len_ #[t] ty #[.string s]).run P w = .ok (.int .i64 s.size) w := by
  simp [Builtin.len_, run_underlying h, goInt]

theorem run_len_sl {t e ty : TypeId} {b : Option Addr} {n c : Nat} (h : P.underlying t = some (.slice e)) : (Builtin.len_ #[t] ty #[.slice b n c]).run P w = .ok (.int .i64 n) w := by
  simp [Builtin.len_, run_underlying h, goInt]

theorem run_len_arr {t e ty : TypeId} {v : Value} {n : Nat} (h : P.underlying t = some (.array n e)) : (Builtin.len_ #[t] ty #[v]).run P w = .ok (.int .i64 n) w := by
  simp [Builtin.len_, run_underlying h, goInt]

/-- The fields of a struct's type are in the table. -/
def fieldsIn (T : Lays) (fs : List (Nat × TypeId)) : Bool := fs.all fun f => (T f.2).isSome

theorem fieldsIn_get {T : Lays} {fs : List (Nat × TypeId)} (h : fieldsIn T fs = true) (i off : Nat) (ft : TypeId) (hf : fs[i]? = some (off, ft)) : (T ft).isSome = true := by
  unfold fieldsIn at h
  rw [List.all_eq_true] at h
  exact h _ (List.mem_of_getElem? hf)

theorem evalV_sound (hT : LayOk P T) (hZ : ZeroOk T) (hS : ∀ t fs s b z, T t = some ⟨.st fs, s, b, z⟩ → fieldsIn T fs = true) (hM : MoreOk P T) (hH : HRel F w μ H nx) (hE : ERel w (Own F H μ) μ E a) {o : Oper} {x : SV} {vc : Prop} (h : evalV T H E o.op = some (x, vc)) (hv : vc) :
    Yield P w (Own F H μ) μ a o x := by
  cases ho : o.op with
  | move y => rw [ho] at h; simp only [evalV, Option.some.injEq, Prod.mk.injEq] at h; obtain ⟨rfl, rfl⟩ := h; exact yield_move hE (.inl ho) hv
  | assign y => rw [ho] at h; simp only [evalV, Option.some.injEq, Prod.mk.injEq] at h; obtain ⟨rfl, rfl⟩ := h; exact yield_move hE (.inr ho) hv
  | pick c y z =>
    rw [ho] at h; simp only [evalV] at h
    split at h
    · rename_i h1 h2 h3
      simp only [Option.some.injEq, Prod.mk.injEq] at h; obtain ⟨rfl, rfl⟩ := h
      exact yield_pick hE ho h1 h2 h3 hv.1 (fun h => hv.2.1 (by rw [h]; rfl)) (fun h => hv.2.2 (by rw [h]; rfl))
    · cases h
  | load t y =>
    rw [ho] at h; simp only [evalV] at h
    split at h
    · rename_i L p hL hp
      split at h
      · rename_i l q hl
        split at h
        · rename_i c hc
          simp only [Option.some.injEq, Prod.mk.injEq] at h; obtain ⟨rfl, rfl⟩ := h
          exact yield_load hT hH hE ho hL hp hl hc hv.1 hv.2
        · cases h
      · cases h
    · cases h
  | fieldAddr t y f =>
    rw [ho] at h; simp only [evalV] at h
    split at h
    · rename_i fs sz by_ z hL
      split at h
      · rename_i off ft hf
        split at h
        · rename_i L b e i j hF hy
          cases h0 : Nat.beq L.size 0 with
          | true => rw [h0] at h; simp at h
          | false =>
            rw [h0] at h; simp only [cond_false, Option.some.injEq, Prod.mk.injEq] at h; obtain ⟨rfl, rfl⟩ := h
            obtain ⟨m, hm, hval⟩ := rd_one hE hy hv
            exact yield_fieldAddr hT ho hL hf hF (fun e => by simp [e] at h0) hval ⟨m, hm, by rw [Nat.add_assoc]⟩
        · rename_i L n cell hF hy
          cases h0 : (Nat.beq L.size 0 || !(Nat.ble off n)) with
          | true => rw [h0] at h; simp at h
          | false =>
            rw [h0] at h; simp only [cond_false, Option.some.injEq, Prod.mk.injEq] at h; obtain ⟨rfl, rfl⟩ := h
            simp only [Bool.or_eq_false_iff, Bool.not_eq_false'] at h0
            have hle := Nat.le_of_ble_eq_true h0.2
            obtain ⟨b, o', hval, h4, h5, h6⟩ := rd_one hE hy hv
            refine yield_fieldAddr hT ho hL hf hF (fun e => by simp [e] at h0) hval ⟨b, o' + off, rfl, h4, h5, fun j hj => ?_⟩
            have := h6 (off + j) (by omega)
            simpa [Nat.add_assoc] using this
        · cases h
      · cases h
    · cases h
  | field t y f =>
    rw [ho] at h; simp only [evalV] at h
    split at h
    · rename_i fs sz by_ z hL
      split at h
      · rename_i off ft hf
        split at h
        · rename_i L l hF hy
          cases h0 : lenIs ((l.drop off).take L.size) L.size with
          | false => rw [h0] at h; simp at h
          | true =>
            rw [h0] at h; simp only [cond_true] at h
            split at h
            · rename_i c hc
              simp only [Option.some.injEq, Prod.mk.injEq] at h; obtain ⟨rfl, rfl⟩ := h
              exact yield_field hT hE ho hL hf hF hy hv h0 hc
            · cases h
        · cases h
      · cases h
    · cases h
  | index t y ix =>
    rw [ho] at h; simp only [evalV] at h
    split at h
    · rename_i n e sz by_ z k i hL hi
      split at h
      · rename_i L l hF hy
        split at h
        · rename_i q ns hq
          simp only [Option.some.injEq, Prod.mk.injEq] at h; obtain ⟨rfl, rfl⟩ := h
          obtain ⟨p1, p2, p3, p4⟩ := intsOf_get hq (i := i.toNat) (by have := hv.2.2.1; have := hv.2.2.2; omega)
          refine yield_index_arr hT hE ho hL hF hy hv.1 hi hv.2.1 hv.2.2.1 hv.2.2.2 ?_ ?_ (c := ione (.int q (ns.getD i.toNat 0)))
          · rw [p1, Nat.mul_one, p3]; rfl
          · rw [p1, Nat.mul_one, p2, p3]; rfl
        · cases h0 : lenIs ((l.drop (i.toNat * L.size)).take L.size) L.size with
          | false => rw [h0] at h; simp at h
          | true =>
            rw [h0] at h; simp only [cond_true] at h
            split at h
            · rename_i c hc
              simp only [Option.some.injEq, Prod.mk.injEq] at h; obtain ⟨rfl, rfl⟩ := h
              exact yield_index_arr hT hE ho hL hF hy hv.1 hi hv.2.1 hv.2.2.1 hv.2.2.2 h0 hc
            · cases h
      · cases h
    · rename_i sz by_ z k i hL hi
      split at h
      · rename_i s hy
        simp only [Option.some.injEq, Prod.mk.injEq] at h; obtain ⟨rfl, rfl⟩ := h
        exact yield_index_str hT hE ho hL hy hv.1 hi hv.2.1 hv.2.2.1 hv.2.2.2
      · cases h
    · cases h
  | entry y =>
    rw [ho] at h; simp only [evalV] at h
    split at h
    · rename_i b e i j hy
      cases h0 : Nat.beq (i * e + j) 0 with
      | false => rw [h0] at h; simp at h
      | true =>
        rw [h0] at h; simp only [cond_true] at h
        split at h
        · rename_i ka kks va vn dom val seen hB
          split at h
          · rename_i ks hl
            split at h
            · rename_i k c hk hc
              simp only [Option.some.injEq, Prod.mk.injEq] at h; obtain ⟨rfl, rfl⟩ := h
              exact yield_entry hH hE ho hy hv (Nat.eq_of_beq_eq_true h0) hB hl hk hc
            · cases h
          · cases h
        · cases h
    · cases h
  | indexAddr t y ix =>
    rw [ho] at h; simp only [evalV] at h
    split at h
    · rename_i e sz by_ z k i hL hi
      split at h
      · rename_i L s n ex cell hF hy
        cases h0 : Nat.beq s L.size with
        | false => rw [h0] at h; simp at h
        | true =>
          rw [h0] at h; simp only [cond_true, Option.some.injEq, Prod.mk.injEq] at h; obtain ⟨rfl, rfl⟩ := h
          obtain ⟨q1, q2, q3, q4⟩ := hv
          have hs := Nat.eq_of_beq_eq_true h0
          subst hs
          rcases rd_one hE hy q1 with ⟨_, hn⟩ | ⟨b, off, cap, hval, c1, c2, c3, c4, c5, c6⟩
          · omega
          · refine yield_indexAddr_sl hT hE ho hL hF hval hi q2 q3 q4 ⟨b, off + i.toNat * L.size, rfl, c4, c5, fun j hj => ?_⟩
            exact c6 i.toNat (by omega) j hj
      · rename_i L b s r j len app hF hy
        cases h0 : Nat.beq s L.size with
        | false => rw [h0] at h; simp at h
        | true =>
          rw [h0] at h; simp only [cond_true, Option.some.injEq, Prod.mk.injEq] at h; obtain ⟨rfl, rfl⟩ := h
          obtain ⟨q1, q2, q3, q4⟩ := hv
          have hs := Nat.eq_of_beq_eq_true h0
          subst hs
          rcases rd_one hE hy q1 with ⟨hn, _⟩ | ⟨m, cap, hm, hval, c1, c2, c3⟩
          · omega
          · refine yield_indexAddr_sl hT hE ho hL hF hval hi q2 q3 q4 ⟨m, hm, ?_⟩
            rw [plusN_eq, Nat.add_mul]
            congr 3
            omega
      · cases h
    · rename_i n e sz by_ z k i hL hi
      split at h
      · rename_i L b e' i' j hF hy
        simp only [Option.some.injEq, Prod.mk.injEq] at h; obtain ⟨rfl, rfl⟩ := h
        obtain ⟨q1, q2, q3, q4⟩ := hv
        obtain ⟨m, hm, hval⟩ := rd_one hE hy q1
        exact yield_indexAddr_arr hT hE ho hL hF hval hi q2 q3 q4 ⟨m, hm, by rw [Nat.add_assoc]⟩
      · rename_i L m cell hF hy
        simp only [Option.some.injEq, Prod.mk.injEq] at h; obtain ⟨rfl, rfl⟩ := h
        obtain ⟨q1, q2, q3, q4⟩ := hv
        obtain ⟨b, o', hval, h4, h5, h6⟩ := rd_one hE hy q1
        refine yield_indexAddr_arr hT hE ho hL hF hval hi q2 q3 q4 ⟨b, o' + i.toNat * L.size, rfl, h4, h5, fun j hj => ?_⟩
        have := h6 (i.toNat * L.size + j) (by omega)
        simpa [Nat.add_assoc] using this
      · cases h
    · cases h
  | binOp op t y z t' =>
    rw [ho] at h; simp only [evalV] at h
    split at h
    · rename_i b hb
      simp only [Option.some.injEq, Prod.mk.injEq] at h; obtain ⟨rfl, rfl⟩ := h
      exact yield_aggB hT hM hE ho hb hv.1 hv.2
    · split at h
      · rename_i v p hb
        simp only [Option.some.injEq, Prod.mk.injEq] at h; obtain ⟨rfl, rfl⟩ := h
        exact yield_binOp hT hE ho hb hv.1 hv.2.1 hv.2.2
      · cases h
  | lookup t y ix ok =>
    rw [ho] at h; simp only [evalV] at h
    split at h
    · rename_i kt e sz by_ z m ka kks ks hL hy hix
      split at h
      · rename_i ka' kks' L ka2 kks2 va vn dom val hk hF hm
        cases hc : (bEq ka ka' && kindsEq kks kks' && (bEq ka ka2 && kindsEq kks kks2) && (bEq va (isAgg L.kind) && Nat.beq vn L.size)) with
        | false => rw [hc] at h; simp at h
        | true =>
          rw [hc] at h; simp only [cond_true] at h
          split at h
          · rename_i c hmk
            simp only [Option.some.injEq, Prod.mk.injEq] at h; obtain ⟨rfl, rfl⟩ := h
            simp only [Bool.and_eq_true] at hc
            obtain ⟨⟨⟨c1, c2⟩, c3, c4⟩, c5, c6⟩ := hc
            have c1 := bEq_eq c1; have c2 := kindsEq_eq c2; have c3 := bEq_eq c3; have c4 := kindsEq_eq c4; have c5 := bEq_eq c5; have c6 := Nat.eq_of_beq_eq_true c6
            subst c1; subst c2; subst c3; subst c4
            exact yield_lookup hT hZ hM hH hE ho hL hy hix hk hF hm c5 (by rw [c6]; exact (hM.size e L hF).symm) hmk hv.1 hv.2.1 hv.2.2
          · cases h
        
      · cases h
    · cases h
  | unOp op t y =>
    rw [ho] at h; simp only [evalV] at h
    split at h
    · rename_i b hy
      simp only [Option.some.injEq, Prod.mk.injEq] at h; obtain ⟨rfl, rfl⟩ := h
      exact yield_unOp hE ho hy hv (by simp [Op.unary]) rfl
    · rename_i k n hy
      simp only [Option.some.injEq, Prod.mk.injEq] at h; obtain ⟨rfl, rfl⟩ := h
      exact yield_unOp hE ho hy hv (by simp [Op.unary, Op.intArith]) rfl
    · cases h
  | convert s d y =>
    rw [ho] at h; simp only [evalV] at h
    split at h
    · rename_i L k sz by_ z n k' hs hd hy
      simp only [Option.some.injEq, Prod.mk.injEq] at h; obtain ⟨rfl, rfl⟩ := h
      exact yield_convert hT hE ho hs hd hy hv
    · rename_i e sz by_ z sz' by' z' b s0 r j n app hs hd hy
      split at h
      · rename_i sz2 by2 z2 ty e' N cell hF hB
        cases h0 : (Nat.beq s0 1 && (Nat.beq e' 1 && Nat.beq j 0)) with
        | false => rw [h0] at h; simp at h
        | true =>
          rw [h0] at h; simp only [cond_true] at h
          simp only [Bool.and_eq_true] at h0
          obtain ⟨h1, h2, h3⟩ := h0
          have h1 := Nat.eq_of_beq_eq_true h1
          have h2 := Nat.eq_of_beq_eq_true h2
          have h3 := Nat.eq_of_beq_eq_true h3
          subst h1; subst h2; subst h3
          split at h
          · rename_i ks hks
            simp only [Option.some.injEq, Prod.mk.injEq] at h; obtain ⟨rfl, rfl⟩ := h
            exact yield_bytes hT hH hE ho hs hd hF hy hv.1 hB hks hv.2
          · cases h
      · cases h
    · cases h
  | extract y i =>
    rw [ho] at h; simp only [evalV] at h
    split at h
    · rename_i l hy
      split at h
      · rename_i c hc
        simp only [Option.some.injEq, Prod.mk.injEq] at h; obtain ⟨rfl, rfl⟩ := h
        exact yield_extract hE ho hy hc hv
      · cases h
    · cases h
  | nilCheck y =>
    rw [ho] at h; simp only [evalV] at h
    split at h
    · rename_i hy
      simp only [Option.some.injEq, Prod.mk.injEq] at h; obtain ⟨rfl, rfl⟩ := h
      exact yield_nilCheck hE ho hy hv (.inl ⟨_, _, _, _, rfl⟩)
    · rename_i hy
      simp only [Option.some.injEq, Prod.mk.injEq] at h; obtain ⟨rfl, rfl⟩ := h
      exact yield_nilCheck hE ho hy hv (.inr (.inl ⟨_, _, rfl⟩))
    · rename_i hy
      simp only [Option.some.injEq, Prod.mk.injEq] at h; obtain ⟨rfl, rfl⟩ := h
      exact yield_nilCheck hE ho hy hv (.inr (.inr ⟨_, _, _, _, _, rfl⟩))
    · cases h
  | build t parts =>
    rw [ho] at h; simp only [evalV] at h
    split at h
    · rename_i fs sz by_ z hL
      split at h
      · rename_i l p hf
        simp only [Option.some.injEq, Prod.mk.injEq] at h; obtain ⟨rfl, rfl⟩ := h
        exact yield_build_st hT hZ hE ho hL (fun i off ft => fieldsIn_get (hS _ _ _ _ _ hL) i off ft) hf hv
      · cases h
    · rename_i n e sz by_ z hL
      split at h
      · rename_i L hF
        split at h
        · rename_i l p hf
          simp only [Option.some.injEq, Prod.mk.injEq] at h; obtain ⟨rfl, rfl⟩ := h
          exact yield_build_arr hT hZ hE ho hL hF hf hv
        · cases h
      · cases h
    · cases h
  | makeFunc f first caps =>
    rw [ho] at h; simp only [evalV] at h
    split at h
    · rename_i l p m q h1 h2
      simp only [Option.some.injEq, Prod.mk.injEq] at h; obtain ⟨rfl, rfl⟩ := h
      exact yield_makeFunc hE ho h1 h2 hv.1 hv.2
    · cases h
  | slice t y lo hi mx =>
    rw [ho] at h; simp only [evalV] at h
    split at h
    · rename_i e sz by_ z s n ex cell hL hy
      split at h
      · rename_i L l pl h' ph hF hl hh
        cases h0 : (Nat.beq L.size s || Nat.beq n 0) with
        | false => rw [h0] at h; simp at h
        | true =>
          rw [h0] at h; simp only [cond_true] at h
          have hF' : ∃ L, T e = some L ∧ (L.size = s ∨ n = 0) := ⟨L, hF, by
            rw [Bool.or_eq_true] at h0
            exact h0.imp Nat.eq_of_beq_eq_true Nat.eq_of_beq_eq_true⟩
          split at h
          · simp only [Option.some.injEq, Prod.mk.injEq] at h; obtain ⟨rfl, rfl⟩ := h
            obtain ⟨q1, q2, q3, q4, q5, q6⟩ := hv
            simp only [plusN_eq]
            refine yield_slice_imm hT hE ho hL hF' hy q1 hl hh q2 q3 q4 q5 q6 _ (.inl ⟨rfl, fun hr => ?_⟩)
            cases hi with
            | none => exact ⟨rfl, hr⟩
            | some y => cases hr
          · rename_i m
            split at h
            · rename_i y' m' pm hm
              simp only [Option.some.injEq, Prod.mk.injEq] at h; obtain ⟨rfl, rfl⟩ := h
              obtain ⟨q1, q2, q3, q4, q5, q6, q7, q8⟩ := hv
              simp only [plusN_eq]
              exact yield_slice_imm hT hE ho hL hF' hy q1 hl hh q2 q3 q5 q6 (by omega) _ (.inr ⟨m, m', pm, rfl, by simp, hm, q4, q7, q8, fun hr => of_decide_eq_true hr⟩)
            · cases h
      · cases h
    · rename_i e sz by_ z b0 s r0 n app hL hy
      split at h
      · rename_i L l pl h' ph hF hl hh
        cases h0 : Nat.beq L.size s with
        | false => rw [h0] at h; simp at h
        | true =>
          rw [h0] at h; simp only [cond_true, Option.some.injEq, Prod.mk.injEq] at h; obtain ⟨rfl, rfl⟩ := h
          obtain ⟨q1, q2, q3, q4, q5, q6⟩ := hv
          simp only [plusN_eq]
          exact yield_slice_osl hT hE ho hL hF (Nat.eq_of_beq_eq_true h0) hy q1 hl hh q2 q3 q4 q5 q6
      · cases h
    · rename_i m e sz by_ z k cell hL hy
      split at h
      · rename_i L l pl h' ph hF hl hh
        cases h0 : (Nat.ble (m * L.size) k && Nat.ble m 1000000) with
        | false => rw [h0] at h; simp at h
        | true =>
          rw [h0] at h; simp only [cond_true, Option.some.injEq, Prod.mk.injEq] at h; obtain ⟨rfl, rfl⟩ := h
          rw [Bool.and_eq_true] at h0
          obtain ⟨q1, q2, q3, q4, q5, q6⟩ := hv
          exact yield_slice_arr hT hE ho hL hF hy q1 (Nat.le_of_ble_eq_true h0.1) (Nat.le_of_ble_eq_true h0.2) hl hh q2 q3 q4 q5 q6
      · cases h
    · rename_i sz by_ z s hL hy
      split at h
      · rename_i l pl h' ph hl hh
        simp only [Option.some.injEq, Prod.mk.injEq] at h; obtain ⟨rfl, rfl⟩ := h
        obtain ⟨q1, q2, q3, q4, q5, q6⟩ := hv
        exact yield_slice_str hT hE ho hL hy q1 hl hh q2 q3 q4 q5 q6
      · cases h
    · cases h
  | call c =>
    rw [ho] at h; simp only [evalV] at h
    obtain ⟨callee, args, argTypes⟩ := c
    split at h
    · rename_i hc
      simp only at hc; subst hc
      split at h
      · rename_i t y ht hargs
        simp only at ht hargs
        obtain rfl : argTypes = #[t] := Array.toList_inj.1 (by simpa using ht)
        obtain rfl : args = #[y] := Array.toList_inj.1 (by simpa using hargs)
        split at h
        · rename_i e sz by_ z s n ex cell hL hy
          simp only [Option.some.injEq, Prod.mk.injEq] at h; obtain ⟨rfl, rfl⟩ := h
          have hu := under_sl (hT t _ hL)
          rcases rd_one hE hy hv with ⟨⟨ad, hval⟩, rfl⟩ | ⟨b, off, cap, hval, _⟩
          · exact yield_len hval ho (run_len_sl hu) rfl
          · exact yield_len hval ho (run_len_sl hu) rfl
        · rename_i e sz by_ z b s r j n app hL hy
          simp only [Option.some.injEq, Prod.mk.injEq] at h; obtain ⟨rfl, rfl⟩ := h
          have hu := under_sl (hT t _ hL)
          rcases rd_one hE hy hv with ⟨rfl, hem⟩ | ⟨m, cap, hm, hval, _⟩
          · obtain ⟨ad, hval⟩ := hem
            exact yield_len hval ho (run_len_sl hu) rfl
          · exact yield_len hval ho (run_len_sl hu) rfl
        · rename_i sz by_ z s hL hy
          simp only [Option.some.injEq, Prod.mk.injEq] at h; obtain ⟨rfl, rfl⟩ := h
          have hu := under_str (hT t _ hL)
          exact yield_len (rd_val hE hy hv) ho (run_len_str hu) rfl
        · rename_i n e sz by_ z hL
          simp only [Option.some.injEq, Prod.mk.injEq] at h; obtain ⟨rfl, rfl⟩ := h
          have hu := under_arr (hT t _ hL)
          exact yield_len rfl ho (run_len_arr hu) rfl
        · cases h
      · cases h
    · rename_i hc
      simp only at hc; subst hc
      split at h
      · rename_i y z hargs
        simp only at hargs
        obtain rfl : args = #[y, z] := Array.toList_inj.1 (by simpa using hargs)
        split at h
        · rename_i k m k' n hy hz
          simp only [Option.some.injEq, Prod.mk.injEq] at h; obtain ⟨rfl, rfl⟩ := h
          have e1 := rd_val hE hy hv.1
          have e2 := rd_val hE hz hv.2
          exact ⟨.int k (if n < m then n else m), by simp [execOp, ho, resolve, invoke, builtin, e1, e2, Builtin.min_, Builtin.min2], ⟨rfl, rfl⟩⟩
        · cases h
      · cases h
    · rename_i hc
      simp only at hc; subst hc
      split at h
      · rename_i y z hargs
        simp only at hargs
        obtain rfl : args = #[y, z] := Array.toList_inj.1 (by simpa using hargs)
        split at h
        · rename_i k m k' n hy hz
          simp only [Option.some.injEq, Prod.mk.injEq] at h; obtain ⟨rfl, rfl⟩ := h
          have e1 := rd_val hE hy hv.1
          have e2 := rd_val hE hz hv.2
          exact ⟨.int k (if n > m then n else m), by simp [execOp, ho, resolve, invoke, builtin, e1, e2, Builtin.max_, Builtin.max2], ⟨rfl, rfl⟩⟩
        · cases h
      · cases h
    · cases h
  | _ => rw [ho] at h; simp [evalV] at h
end
end Go.Proofs.YtmpddomgiplnmaaDoor.Abs

/-
  OPERATIONS THAT MAKE OR WRITE MEMORY: what the evaluator answers is what the model does, and the state stays related.
-/
namespace Go.Proofs.YtmpddomgiplnmaaDoor.Abs
open Go

/-- Data, reckoned as far as its head. -/
def forceI {α : Type} (x : IV) (k : IV → α) : α := match x with
  | .val (.int q n) => k (.val (.int q n))
  | .val (.bool b) => k (.val (.bool b))
  | .val v => k (.val v)
  | .sl e n ex c => k (.sl e n ex c)
  | .mp a b c d e f => k (.mp a b c d e f)
def forceA {α : Type} (x : AV) (k : AV → α) : α := match x with
  | .imm x => forceI x fun y => k (.imm y)
  | .own b e i j => k (.own b e i j)
  | .osl b e r j len app => k (.osl b e r j len app)
  | .omp b => k (.omp b)
  | .vptr n c => k (.vptr n c)
  | .fn f nf fi nc ca => k (.fn f nf fi nc ca)
def forceL {α : Type} : List AV → (List AV → α) → α
  | [], k => k []
  | x :: l, k => forceA x fun y => forceL l fun ys => k (y :: ys)
theorem forceI_eq {α : Type} (x : IV) (k : IV → α) : forceI x k = k x := by unfold forceI; split <;> rfl
theorem forceA_eq {α : Type} (x : AV) (k : AV → α) : forceA x k = k x := by unfold forceA; split <;> first | exact forceI_eq _ _ | rfl
theorem forceL_eq {α : Type} : ∀ (l : List AV) (k : List AV → α), forceL l k = k l
  | [], _ => rfl
  | x :: l, k => by rw [forceL, forceA_eq, forceL_eq l]

def updH (H : Nat → Option ABlk) : List (Nat × Option ABlk) → Nat → Option ABlk
  | [] => H
  | (k, B) :: l => updH (fun k' => bif Nat.beq k' k then B else H k') l

def toIV : AV → Option IV
  | .imm x => some x
  | _ => none

def toIVs : List AV → Option (List IV)
  | [] => some []
  | x :: l => match toIV x, toIVs l with
    | some y, some ys => some (y :: ys)
    | _, _ => none

def zeroIV (L : Lay) (j : Nat) : IV := ivOf (L.zero.getD j Go.undef)

def repZ (L : Lay) : Nat → List AV
  | 0 => []
  | n + 1 => zeros L ++ repZ L n

/-- A slice's rows: how many, whether it may be appended to in place (its block), its cells. -/
def rowsOf (H : Nat → Option ABlk) : AV → Option (Nat × Nat × (Nat → Nat → IV) × Prop)
  | .imm (.sl e n _ cell) => some (e, n, cell, True)
  | .osl b e r j len _ => match H b with
    | some (.rows _ e' n cell) => bif Nat.beq e e' && Nat.beq j 0 then some (e, len, fun i q => cell (plusN r i) q, r + len ≤ n) else none
    | _ => none
  | _ => none

def isAggC : CV → Bool
  | .agg _ => true
  | .one _ => false

/-- An entry that is put into an own map. -/
def mapPut (T : Lays) (H : Nat → Option ABlk) (E : Nat → SV) (t : TypeId) (m k x : Operand) : Option (SV × List (Nat × Option ABlk) × Prop) :=
  match T t, rd E m, keyOf (rd E k), rd E x with
  | some ⟨.map kt _, _, _, _⟩, .cv (.one (.omp b)), some (ka, kks, ks), .cv c => match keyForm T kt, H b, toIVs c.cells with
    | some (ka', kks'), some (.mp ka2 kks2 va vn dom val), some xs =>
      bif bEq ka ka' && kindsEq kks kks' && (bEq ka ka2 && kindsEq kks kks2) && (bEq (isAggC c) va && lenIs c.cells vn) then
        some (.undef, [(b, some (.mp ka kks va vn (fun k' => eqI ks k' || dom k') fun k' => bif eqI ks k' then (fun j => xs.getD j ivDef) else val k'))], need E m ∧ need E k ∧ need E x)
      else none
    | _, _, _ => none
  | _, _, _, _ => none

/-- What an operation that makes or writes memory does: a value, what blocks are behind it, what must hold. -/
def evalM (T : Lays) (nid : Nat) (H : Nat → Option ABlk) (E : Nat → SV) (o : Op) : Option (SV × List (Nat × Option ABlk) × Prop) :=
  match o with
  | .box t x => match rd E x with
    | .cv c => forceL c.cells fun cs => some (.cv (.one (.own nid 0 0 0)), [(nid, some (.var t cs))], need E x)
    | _ => none
  | .alloc t => match T t with
    | some L => forceL (zeros L) fun cs => some (.cv (.one (.own nid 0 0 0)), [(nid, some (.var t cs))], True)
    | none => none
  | .buildSlice t len parts => match T t with
    | some ⟨.sl e, _, _, _⟩ => match T e with
      | some L => bif Nat.ble (len * L.size) 16777216 && !(Nat.beq L.size 0) then match fillA E L.size (repZ L len) parts.toList with
        | some (l, p) => match toIVs l with
          | some xs => some (.cv (.one (.osl nid L.size 0 0 len true)), [(nid, some (.rows e L.size len fun i j => xs.getD (i * L.size + j) ivDef))], p)
          | none => none
        | none => none
        else none
      | none => none
    | _ => none
  | .makeSlice t l c => match T t, rd E l, rd E c with
    | some ⟨.sl e, _, _, _⟩, .cv (.one (.imm (.val (.int _ n)))), .cv (.one (.imm (.val (.int _ m)))) => match T e with
      | some L => bif Nat.beq L.size 0 then none else some (.cv (.one (.osl nid L.size 0 0 n.toNat true)), [(nid, some (.rows e L.size n.toNat fun _ j => zeroIV L j))], need E l ∧ need E c ∧ 0 ≤ n ∧ n ≤ m ∧ (L.bytes : Int) * m ≤ 281474976710656 ∧ m ≤ 9223372036854775807)
      | none => none
    | _, _, _ => none
  | .store t x y => match T t, rd E x, rd E y with
    | some L, .cv (.one (.own b e i j)), .cv c => bif lenIs c.cells L.size then match H b with
      | some (.var ty cells) => bif Nat.ble (i * e + j + L.size) cells.length then forceL (setAt cells (i * e + j) c.cells) fun cs => some (.undef, [(b, some (.var ty cs))], need E x ∧ need E y) else none
      | some (.rows ty e' n cell) => match toIVs c.cells with
        | some xs => bif Nat.beq e e' && Nat.ble (j + L.size) e' then
            some (.undef, [(b, some (.rows ty e' n fun i' j' => bif Nat.beq i' i && (Nat.ble j j' && Nat.blt j' (j + L.size)) then xs.getD (j' - j) ivDef else cell i' j'))], need E x ∧ need E y ∧ i < n)
          else none
        | none => none
      | _ => none
      else none
    | _, _, _ => none
  | .range t x => match T t, rd E x with
    | some ⟨.map _ _, _, _, _⟩, .cv (.one (.imm (.mp ka kks va vn dom val))) => some (.cv (.one (.own nid 0 0 0)), [(nid, some (.it ka kks va vn dom val []))], need E x)
    | _, _ => none
  | .convert s d x => match T s, T d, rd E x with
    | some _, some ⟨.sl e, _, _, _⟩, .cv (.one (.imm (.val (.string b)))) => match T e with
      | some ⟨.int .u8, _, _, _⟩ => some (.cv (.one (.imm (.sl 1 b.size false fun i _ => .val (.int .u8 (b.data.getD i 0).toNat)))), [], need E x ∧ b.size ≤ 9223372036854775806)
      | _ => none
    | _, _, _ => none
  | .makeMap t none => match T t with
    | some ⟨.map k e, _, _, _⟩ => match keyForm T k, T e with
      | some (ka, kks), some L => some (.cv (.one (.omp nid)), [(nid, some (.mp ka kks (isAgg L.kind) L.size (fun _ => false) fun _ _ => ivDef))], True)
      | _, _ => none
    | _ => none
  | .mapUpdate t m k x => mapPut T H E t m k x
  | .insert t m k x => mapPut T H E t m k x
  | .call c => match c.callee, c.argTypes.toList, c.args.toList with
    | .builtin .append, [t, t'], [x, y] => match T t, rd E x, rd E y with
      | some ⟨.sl e, _, _, _⟩, .cv (.one s), .cv (.one r) => match T e, rowsOf H r with
        | some L, some (e', m, cellr, pr) => bif Nat.beq t t' && !(Nat.beq L.size 0) && Nat.beq e' L.size then match s with
          | .imm (.sl es n ex cell) => some (.cv (.one (.osl nid L.size 0 0 (n + m) true)), [(nid, some (.rows e L.size (n + m) fun i j => bif Nat.blt i n then cell i j else cellr (i - n) j))],
              need E x ∧ need E y ∧ pr ∧ (n + m) * L.bytes ≤ 140737488355328 ∧ n + m ≤ maxLen ∧ (es = L.size ∨ n = 0) ∧ ex = true ∧ (n = 0 ∨ 0 < m))
          | .osl b es 0 0 n true => match H b with
            | some (.rows ty es' n' cell) => bif Nat.beq es L.size && Nat.beq es' L.size && Nat.beq ty e then
              some (.cv (.one (.osl nid L.size 0 0 (n + m) true)), [(b, none), (nid, some (.rows e L.size (n + m) fun i j => bif Nat.blt i n then cell i j else cellr (i - n) j))],
                need E x ∧ need E y ∧ pr ∧ (n + m) * L.bytes ≤ 140737488355328 ∧ n + m ≤ maxLen ∧ n ≤ n')
              else none
            | _ => none
          | _ => none
          else none
        | _, _ => none
      | _, _, _ => none
    | .builtin .copy, [t, _], [x, y] => match T t, rd E x, rd E y with
      | some ⟨.sl e, _, _, _⟩, .cv (.one (.osl b es r 0 n _)), .cv (.one s) => match T e, rowsOf H s with
        | some L, some (e', m, cellr, pr) => match H b with
          | some (.rows ty es' N cell) => bif Nat.beq L.size 1 && Nat.beq e' 1 && Nat.beq es 1 && Nat.beq es' 1 && Nat.beq ty e then
              some (.cv (iint (Nat.min m n : Nat)), [(b, some (.rows e 1 N fun i j => bif Nat.ble r i && Nat.blt i (r + Nat.min m n) then cellr (i - r) j else cell i j))], need E x ∧ need E y ∧ pr ∧ r + n ≤ N)
            else none
          | _ => none
        | _, _ => none
      | _, _, _ => none
    | _, _, _ => none
  | _ => none

section
variable {P : Program} {T : Lays} {F : Nat → Prop} {w w' : World} {μ μ' : Nat → Option Nat} {H H' : Nat → Option ABlk} {nx : Nat} {E : Nat → SV} {a : Act}

theorem BRel.mono {O O' : Nat → Prop} {k : Nat} {B : ABlk} (h : BRel w O μ k B) (hx : Ext F w O μ w' O' μ') (hk : μ' k = μ k) (hb : ∀ m, μ k = some m → w'.heap[m]? = w.heap[m]?) : BRel w' O' μ' k B := by
  cases B with
  | var ty cells =>
    obtain ⟨m, cur, hm, hw, hl⟩ := h
    exact ⟨m, cur, hk.trans hm, (hb m hm).trans hw, hl.mono hx⟩
  | rows ty e n cell =>
    rcases h with ⟨hm, hn⟩ | ⟨m, cur, hm, hw, hs, hc⟩
    · exact .inl ⟨hk.trans hm, hn⟩
    · refine .inr ⟨m, cur, hk.trans hm, (hb m hm).trans hw, hs, fun i hi j hj => ?_⟩
      obtain ⟨u, hu, hr⟩ := hc i hi j hj
      exact ⟨u, hu, hr.mono hx⟩
  | mp ka kks va vn dom val =>
    obtain ⟨m, es, clock, hm, hw, h4, h5, h6⟩ := h
    refine ⟨m, es, clock, hk.trans hm, (hb m hm).trans hw, h4, fun e he => ?_, h6⟩
    obtain ⟨ks, q1, q2, q3, cs, q4, q5, q6⟩ := h5 e he
    exact ⟨ks, q1, q2, q3, cs, q4, q5, fun j u hu => (q6 j u hu).mono hx⟩
  | it ka kks va vn dom val seen =>
    obtain ⟨r, m, es, clock, ms, h1, h2, h3, h4, h5, h6, h7, h8⟩ := h
    have hm : ¬ O m ∧ m < w.heap.size := by
      obtain ⟨m2, _, _, e, q1, q2, _⟩ := h8
      cases e
      exact ⟨q1, q2⟩
    exact ⟨r, m, es, clock, ms, hk.trans h1, (hb r h1).trans h2, (hx.keep m hm.2 hm.1).trans h3, h4, h5, h6, h7, h8.mono hx⟩

theorem own_isSome {H : Nat → Option ABlk} {k : Nat} {B : ABlk} {m : Nat} (h : H k = some B) (hm : μ k = some m) : Own F H μ m := .inr ⟨k, by rw [h]; rfl, hm⟩

theorem frozen_same {w w' : World} {a : Addr} (h : w'.heap[a.block]? = w.heap[a.block]?) : w'.frozen? a = w.frozen? a := by
  unfold World.frozen?; rw [h]

theorem frozen_push {w w' : World} {obj : Obj} (hheap : w'.heap = w.heap.push obj) (hobj : ∀ c t fz, obj = .cells c t fz → fz = (0, 0)) (a : Addr) : w'.frozen? a = w.frozen? a := by
  by_cases h : a.block = w.heap.size
  · have e1 : w'.heap[a.block]? = some obj := by rw [hheap, h]; simp
    have e2 : w.heap[a.block]? = none := by rw [h]; simp
    unfold World.frozen?
    rw [e1, e2]
    cases obj with
    | cells c t fz => rw [hobj c t fz rfl]; simp
    | _ => rfl
  · refine frozen_same ?_
    rw [hheap, Array.getElem?_push, if_neg h]

/-- A new block. -/
theorem step_alloc (hH : HRel F w μ H nx) {obj : Obj} {B : ABlk}
    (hos : w'.os = w.os) (htape : w'.tape = w.tape) (hout : w'.output = w.output) (hheap : w'.heap = w.heap.push obj) (hobj : ∀ c t fz, obj = .cells c t fz → fz = (0, 0))
    (hB : ∀ O' μ', Ext F w (Own F H μ) μ w' O' μ' → μ' nx = some w.heap.size → BRel w' O' μ' nx B) (hdr : w.drawn ≤ w'.drawn := by first | exact Nat.le_refl _ | exact Nat.le_succ _ | omega) :
    ∃ μ', Ext F w (Own F H μ) μ w' (Own F (updH H [(nx, some B)]) μ') μ' ∧ HRel F w' μ' (updH H [(nx, some B)]) (nx + 1) ∧ μ' nx = some w.heap.size := by
  have hnone : μ nx = none := by
    cases h : μ nx with
    | none => rfl
    | some m => have := (hH.lt nx m h).1; omega
  have hHn : H nx = none := by
    cases h : H nx with
    | none => rfl
    | some B' => have := (hH.blk nx B' h).1; omega
  let μ1 : Nat → Option Nat := fun k => if k = nx then some w.heap.size else μ k
  have hupd : ∀ k, updH H [(nx, some B)] k = if k = nx then some B else H k := by
    intro k
    by_cases h : k = nx
    · subst h; simp [updH]
    · have : Nat.beq k nx = false := by
        cases hb : Nat.beq k nx with
        | false => rfl
        | true => exact absurd (Nat.eq_of_beq_eq_true hb) h
      simp [updH, h, this]
  have hsz : w'.heap.size = w.heap.size + 1 := by rw [hheap]; simp
  have hold : ∀ b, b < w.heap.size → w'.heap[b]? = w.heap[b]? := by
    intro b hb; rw [hheap, Array.getElem?_push, if_neg (by omega)]
  have hown : ∀ m, Own F (updH H [(nx, some B)]) μ1 m → Own F H μ m ∨ w.heap.size ≤ m := by
    rintro m (hF | ⟨k, hk, hm⟩)
    · exact .inl (.inl hF)
    rw [hupd] at hk
    by_cases h : k = nx
    · subst h; simp only [μ1, if_true, Option.some.injEq] at hm; exact .inr (by omega)
    · simp only [h, if_false] at hk
      simp only [μ1, h, if_false] at hm
      exact .inl (.inr ⟨k, hk, hm⟩)
  have hext : Ext F w (Own F H μ) μ w' (Own F (updH H [(nx, some B)]) μ1) μ1 := by
    refine ⟨hos, htape, hout, by omega, fun b hb _ => hold b hb, fun b c t fz hb => ?_, fun k m hm => ?_, hown, fun b hb _ => hold b hb, fun a _ => frozen_push hheap hobj a, hdr⟩
    · have hlt : b < w.heap.size := (Array.getElem?_eq_some_iff.1 hb).1
      exact ⟨c, (hold b hlt).trans hb, rfl⟩
    · simp only [μ1]
      rw [if_neg (by rintro rfl; rw [hnone] at hm; cases hm)]
      exact hm
  refine ⟨μ1, hext, ⟨fun k B' hk => ?_, fun k k' m hk hk' hm hm' => ?_, fun k m hm => ?_, fun k m hk hm hF => ?_, fun m hF => by have := hH.frn m hF; omega⟩, by simp [μ1]⟩
  rotate_right
  · rw [hupd] at hk
    have := hH.frn m hF
    by_cases h : k = nx
    · subst h; simp only [μ1, if_true, Option.some.injEq] at hm; omega
    · simp only [h, if_false] at hk; simp only [μ1, h, if_false] at hm; exact hH.dis k m hk hm hF
  · rw [hupd] at hk
    by_cases h : k = nx
    · subst h; simp only [if_true, Option.some.injEq] at hk; subst hk; exact ⟨by omega, hB _ _ hext (by simp [μ1])⟩
    · simp only [h, if_false] at hk
      obtain ⟨h1, h2⟩ := hH.blk k B' hk
      exact ⟨by omega, h2.mono hext (by simp [μ1, h]) fun m hm => hold m (hH.lt k m hm).2⟩
  · rw [hupd] at hk hk'
    by_cases h : k = nx <;> by_cases h' : k' = nx
    · omega
    · subst h; simp only [μ1, if_true, Option.some.injEq] at hm; simp only [μ1, h', if_false] at hm'; have := (hH.lt k' m hm').2; omega
    · subst h'; simp only [μ1, if_true, Option.some.injEq] at hm'; simp only [μ1, h, if_false] at hm; have := (hH.lt k m hm).2; omega
    · simp only [h, h', if_false] at hk hk'; simp only [μ1, h, h', if_false] at hm hm'; exact hH.inj k k' m hk hk' hm hm'
  · by_cases h : k = nx
    · subst h; simp only [μ1, if_true, Option.some.injEq] at hm; omega
    · simp only [μ1, h, if_false] at hm; have := hH.lt k m hm; omega

theorem HRel.more (hH : HRel F w μ H nx) {nx' : Nat} (h : nx ≤ nx') : HRel F w μ H nx' :=
  ⟨fun k B hk => ⟨Nat.lt_of_lt_of_le (hH.blk k B hk).1 h, (hH.blk k B hk).2⟩, hH.inj, fun k m hm => ⟨Nat.lt_of_lt_of_le (hH.lt k m hm).1 h, (hH.lt k m hm).2⟩, hH.dis, hH.frn⟩

/-- A block that is owned, written. -/
theorem step_write' (hH : HRel F w μ H nx) {b m : Nat} {B0 B : ABlk} (hb : H b = some B0) (hm : μ b = some m)
    (hos : w'.os = w.os) (htape : w'.tape = w.tape) (hout : w'.output = w.output) (hsz : w'.heap.size = w.heap.size) (hoth : ∀ k, k ≠ m → w'.heap[k]? = w.heap[k]?)
    (hshape : ∀ (c : Array Value) t fz, w.heap[m]? = some (.cells c t fz) → ∃ c' : Array Value, w'.heap[m]? = some (.cells c' t fz) ∧ c'.size = c.size)
    (hmap : (∀ c t fz, w.heap[m]? ≠ some (.cells c t fz)) → ∀ c t fz, w'.heap[m]? ≠ some (.cells c t fz))
    (hB : Ext F w (Own F H μ) μ w' (Own F H μ) μ → BRel w' (Own F H μ) μ b B) (hdr : w.drawn ≤ w'.drawn := by first | exact Nat.le_refl _ | exact Nat.le_succ _ | omega) :
    Ext F w (Own F H μ) μ w' (Own F (updH H [(b, some B)]) μ) μ ∧ HRel F w' μ (updH H [(b, some B)]) nx := by
  have hupd : ∀ k, updH H [(b, some B)] k = if k = b then some B else H k := by
    intro k
    by_cases h : k = b
    · subst h; simp [updH]
    · have : Nat.beq k b = false := by
        cases hb : Nat.beq k b with
        | false => rfl
        | true => exact absurd (Nat.eq_of_beq_eq_true hb) h
      simp [updH, h, this]
  have howneq : Own F (updH H [(b, some B)]) μ = Own F H μ := by
    funext x
    apply propext
    constructor
    · rintro (hF | ⟨k, hk, hx⟩)
      · exact .inl hF
      rw [hupd] at hk
      by_cases h : k = b
      · subst h; exact .inr ⟨k, by rw [hb]; rfl, hx⟩
      · simp only [h, if_false] at hk; exact .inr ⟨k, hk, hx⟩
    · rintro (hF | ⟨k, hk, hx⟩)
      · exact .inl hF
      refine .inr ⟨k, ?_, hx⟩
      rw [hupd]
      by_cases h : k = b
      · simp [h]
      · simp only [h, if_false]; exact hk
  have hext : Ext F w (Own F H μ) μ w' (Own F H μ) μ := by
    refine ⟨hos, htape, hout, by omega, fun k hk hO => hoth k (fun e => hO (e ▸ own_isSome hb hm)), fun k c t fz hk => ?_, fun _ _ h => h, fun _ h => .inl h, fun k hk hF => hoth k fun e => hH.dis b m (by rw [hb]; rfl) hm (e ▸ hF), fun a _ => ?_, hdr⟩
    rotate_right
    · by_cases h : a.block = m
      · cases ho : w.heap[m]? with
        | none =>
          have : w'.heap[m]? = none := by
            rw [Array.getElem?_eq_none_iff] at ho ⊢
            omega
          exact frozen_same (by rw [h, ho, this])
        | some o =>
          by_cases hc : ∃ c t fz, o = .cells c t fz
          · obtain ⟨c, t, fz, rfl⟩ := hc
            obtain ⟨c', hc', _⟩ := hshape c t fz ho
            unfold World.frozen?
            rw [h, ho, hc']
          · have h1 := hmap fun c t fz e => hc ⟨c, t, fz, by rw [ho] at e; exact Option.some.inj e⟩
            unfold World.frozen?
            rw [h, ho]
            cases ho' : w'.heap[m]? with
            | none => cases o <;> first | rfl | exact absurd ⟨_, _, _, rfl⟩ hc
            | some o' =>
              cases o' with
              | cells c t fz => exact absurd ho' (h1 c t fz)
              | _ => cases o <;> first | rfl | exact absurd ⟨_, _, _, rfl⟩ hc
      · exact frozen_same (hoth _ h)
    by_cases h : k = m
    · subst h
      exact hshape c t fz hk
    · exact ⟨c, (hoth k h).trans hk, rfl⟩
  rw [howneq]
  refine ⟨hext, ⟨fun k B' hk => ?_, fun k k' m' hk hk' h1 h2 => ?_, fun k m' h1 => ?_, fun k m' hk h1 => ?_, fun m' hF => by rw [hsz]; exact hH.frn m' hF⟩⟩
  rotate_right
  · refine hH.dis k m' ?_ h1
    rw [hupd] at hk
    by_cases h : k = b
    · subst h; rw [hb]; rfl
    · simpa [h] using hk
  · rw [howneq]
    rw [hupd] at hk
    by_cases h : k = b
    · subst h; simp only [if_true, Option.some.injEq] at hk; subst hk; exact ⟨by have := (hH.blk k B0 hb).1; omega, hB hext⟩
    · simp only [h, if_false] at hk
      obtain ⟨q1, q2⟩ := hH.blk k B' hk
      refine ⟨by omega, q2.mono hext rfl fun m' hm' => hoth m' fun e => h ?_⟩
      subst e
      exact hH.inj k b m' (by rw [hk]; rfl) (by rw [hb]; rfl) hm' hm
  · rw [hupd] at hk hk'
    refine hH.inj k k' m' ?_ ?_ h1 h2
    · by_cases h : k = b
      · subst h; rw [hb]; rfl
      · simpa [h] using hk
    · by_cases h : k' = b
      · subst h; rw [hb]; rfl
      · simpa [h] using hk'
  · have := hH.lt k m' h1
    exact ⟨by omega, by rw [hsz]; exact this.2⟩

theorem step_write (hH : HRel F w μ H nx) {b m : Nat} {B0 B : ABlk} {ty : TypeId} {cur cur' : Array Value} (hb : H b = some B0) (hm : μ b = some m) (hw : w.heap[m]? = some (.cells cur ty (0, 0))) (hs : cur'.size = cur.size)
    (hB : Ext F w (Own F H μ) μ (w.setRow m cur') (Own F H μ) μ → BRel (w.setRow m cur') (Own F H μ) μ b B) :
    Ext F w (Own F H μ) μ (w.setRow m cur') (Own F (updH H [(b, some B)]) μ) μ ∧ HRel F (w.setRow m cur') μ (updH H [(b, some B)]) (nx + 1) := by
  have h := step_write' (w' := w.setRow m cur') (nx := nx) hH hb hm rfl rfl rfl (by simp) (fun k hk => setRow_other w m k cur' hk) (fun c t fz hc => by
    rw [hw] at hc
    simp only [Option.some.injEq, Obj.cells.injEq] at hc
    obtain ⟨rfl, rfl, rfl⟩ := hc
    exact ⟨cur', setRow_heap w m cur cur' ty _ hw, hs⟩) (fun h => absurd hw (h _ _ _)) hB
  exact ⟨h.1, h.2.more (by omega)⟩

theorem updH_one {k b : Nat} {B : Option ABlk} : updH H [(b, B)] k = if k = b then B else H k := by
  by_cases h : k = b
  · subst h; simp [updH]
  · have : Nat.beq k b = false := by
      cases hb : Nat.beq k b with
      | false => rfl
      | true => exact absurd (Nat.eq_of_beq_eq_true hb) h
    simp [updH, h, this]

theorem own_sub (h : ∀ k, (H' k).isSome = true → (H k).isSome = true) : ∀ m, Own F H' μ m → Own F H μ m := fun _ hm => hm.imp id fun ⟨k, hk, hm⟩ => ⟨k, h k hk, hm⟩

theorem ext_sub {F O O' : Nat → Prop} (h : ∀ m, O' m → O m) : Ext F w O μ w O' μ :=
  ⟨rfl, rfl, rfl, Nat.le_refl _, fun _ _ _ => rfl, fun _ cur _ _ h => ⟨cur, h, rfl⟩, fun _ _ h => h, fun m hm => .inl (h m hm), fun _ _ _ => rfl, fun _ _ => rfl, Nat.le_refl _⟩

/-- A block is given up. -/
theorem step_remove (hH : HRel F w μ H nx) (b : Nat) : Ext F w (Own F H μ) μ w (Own F (updH H [(b, none)]) μ) μ ∧ HRel F w μ (updH H [(b, none)]) nx := by
  have hsub : ∀ k, ((updH H [(b, none)]) k).isSome = true → (H k).isSome = true := by
    intro k hk
    rw [updH_one] at hk
    split at hk
    · cases hk
    · exact hk
  have hext := ext_sub (F := F) (w := w) (μ := μ) (own_sub (F := F) (μ := μ) hsub)
  refine ⟨hext, ⟨fun k B hk => ?_, fun k k' m hk hk' => hH.inj k k' m (hsub k hk) (hsub k' hk'), hH.lt, fun k m hk => hH.dis k m (hsub k hk), hH.frn⟩⟩
  rw [updH_one] at hk
  split at hk
  · cases hk
  · obtain ⟨h1, h2⟩ := hH.blk k B hk
    exact ⟨h1, h2.mono hext rfl fun _ _ => rfl⟩

/-- A block goes by another name. -/
theorem step_rename (hH : HRel F w μ H nx) {b : Nat} {B : ABlk} (hb : H b = some B) :
    ∃ μ', Ext F w (Own F H μ) μ w (Own F (updH H [(b, none), (nx, some B)]) μ') μ' ∧ HRel F w μ' (updH H [(b, none), (nx, some B)]) (nx + 1) ∧ μ' nx = μ b := by
  have hbn : b < nx := (hH.blk b B hb).1
  let μ1 : Nat → Option Nat := fun k => if k = nx then μ b else μ k
  have hnone : μ nx = none := by
    cases h : μ nx with
    | none => rfl
    | some m => have := (hH.lt nx m h).1; omega
  have hupd : ∀ k, updH H [(b, none), (nx, some B)] k = if k = nx then some B else if k = b then none else H k := by
    intro k
    show updH (updH H [(b, none)]) [(nx, some B)] k = _
    rw [updH_one, updH_one]
  have hown : ∀ m, Own F (updH H [(b, none), (nx, some B)]) μ1 m → Own F H μ m := by
    rintro m (hF | ⟨k, hk, hm⟩)
    · exact .inl hF
    rw [hupd] at hk
    by_cases h : k = nx
    · subst h; simp only [μ1, if_true] at hm; exact own_isSome hb hm
    · simp only [h, if_false] at hk
      simp only [μ1, h, if_false] at hm
      by_cases h' : k = b
      · simp [h'] at hk
      · simp only [h', if_false] at hk; exact .inr ⟨k, hk, hm⟩
  have hext : Ext F w (Own F H μ) μ w (Own F (updH H [(b, none), (nx, some B)]) μ1) μ1 := by
    refine ⟨rfl, rfl, rfl, Nat.le_refl _, fun _ _ _ => rfl, fun _ cur _ _ h => ⟨cur, h, rfl⟩, fun k m hm => ?_, fun m hm => .inl (hown m hm), fun _ _ _ => rfl, fun _ _ => rfl, Nat.le_refl _⟩
    simp only [μ1]
    rw [if_neg (by rintro rfl; rw [hnone] at hm; cases hm)]
    exact hm
  refine ⟨μ1, hext, ⟨fun k B' hk => ?_, fun k k' m hk hk' hm hm' => ?_, fun k m hm => ?_, fun k m hk hm => ?_, hH.frn⟩, by simp [μ1]⟩
  rotate_right
  · rw [hupd] at hk
    by_cases h : k = nx
    · subst h; simp only [μ1, if_true] at hm; exact hH.dis b m (by rw [hb]; rfl) hm
    · simp only [h, if_false] at hk
      simp only [μ1, h, if_false] at hm
      by_cases h' : k = b
      · simp [h'] at hk
      · simp only [h', if_false] at hk; exact hH.dis k m hk hm
  · rw [hupd] at hk
    by_cases h : k = nx
    · subst h
      simp only [if_true, Option.some.injEq] at hk
      subst hk
      refine ⟨by omega, ?_⟩
      have hR := (hH.blk b B hb).2
      have hmo := hR.mono (μ' := μ1) hext (by simp only [μ1]; rw [if_neg (by omega)]) fun _ _ => rfl
      cases B with
      | var ty cells =>
        obtain ⟨m, cur, hm, hrest⟩ := hmo
        exact ⟨m, cur, by simp only [μ1] at hm ⊢; rw [if_neg (by omega)] at hm; simpa using hm, hrest⟩
      | rows ty e n cell =>
        rcases hmo with ⟨hm, hn⟩ | ⟨m, cur, hm, hrest⟩
        · exact .inl ⟨by simp only [μ1] at hm ⊢; rw [if_neg (by omega)] at hm; simpa using hm, hn⟩
        · exact .inr ⟨m, cur, by simp only [μ1] at hm ⊢; rw [if_neg (by omega)] at hm; simpa using hm, hrest⟩
      | mp ka kks va vn dom val =>
        obtain ⟨m, es, clock, hm, hrest⟩ := hmo
        exact ⟨m, es, clock, by simp only [μ1] at hm ⊢; rw [if_neg (by omega)] at hm; simpa using hm, hrest⟩
      | it ka kks va vn dom val seen =>
        obtain ⟨r, m, es, clock, ms, hm, hrest⟩ := hmo
        exact ⟨r, m, es, clock, ms, by simp only [μ1] at hm ⊢; rw [if_neg (by omega)] at hm; simpa using hm, hrest⟩
    · simp only [h, if_false] at hk
      by_cases h' : k = b
      · simp [h'] at hk
      · simp only [h', if_false] at hk
        obtain ⟨h1, h2⟩ := hH.blk k B' hk
        exact ⟨by omega, h2.mono hext (by simp [μ1, h]) fun _ _ => rfl⟩
  · rw [hupd] at hk hk'
    have aux : ∀ k, (if k = nx then some B else if k = b then none else H k).isSome = true → μ1 k = some m → ∃ k0, (H k0).isSome = true ∧ μ k0 = some m ∧ (k = nx ∧ k0 = b ∨ k ≠ nx ∧ k ≠ b ∧ k0 = k) := by
      intro k hk hm
      by_cases h : k = nx
      · subst h; simp only [μ1, if_true] at hm; exact ⟨b, by rw [hb]; rfl, hm, .inl ⟨rfl, rfl⟩⟩
      · simp only [h, if_false] at hk
        simp only [μ1, h, if_false] at hm
        by_cases h' : k = b
        · simp [h'] at hk
        · simp only [h', if_false] at hk; exact ⟨k, hk, hm, .inr ⟨h, h', rfl⟩⟩
    obtain ⟨k0, q1, q2, q3⟩ := aux k hk hm
    obtain ⟨k0', q1', q2', q3'⟩ := aux k' hk' hm'
    have := hH.inj k0 k0' m q1 q1' q2 q2'
    omega
  · by_cases h : k = nx
    · subst h; simp only [μ1, if_true] at hm; have := hH.lt b m hm; omega
    · simp only [μ1, h, if_false] at hm; have := hH.lt k m hm; omega

/-- A block is told of in other words. -/
theorem step_replace (hH : HRel F w μ H nx) {b : Nat} {B0 B : ABlk} (hb : H b = some B0) (hB : BRel w (Own F H μ) μ b B) :
    Ext F w (Own F H μ) μ w (Own F (updH H [(b, some B)]) μ) μ ∧ HRel F w μ (updH H [(b, some B)]) nx := by
  have hiff : ∀ k, ((updH H [(b, some B)]) k).isSome = (H k).isSome := by
    intro k
    rw [updH_one]
    split
    · rename_i h; subst h; rw [hb]; rfl
    · rfl
  have hext := ext_sub (F := F) (w := w) (μ := μ) (own_sub (F := F) (H' := updH H [(b, some B)]) (H := H) (μ := μ) fun k hk => by rw [hiff] at hk; exact hk)
  refine ⟨hext, ⟨fun k B' hk => ?_, fun k k' m hk hk' => hH.inj k k' m (by rw [hiff] at hk; exact hk) (by rw [hiff] at hk'; exact hk'), hH.lt, fun k m hk => hH.dis k m (by rw [hiff] at hk; exact hk), hH.frn⟩⟩
  rw [updH_one] at hk
  split at hk
  · rename_i h
    subst h
    simp only [Option.some.injEq] at hk
    subst hk
    exact ⟨(hH.blk k B0 hb).1, hB.mono hext rfl fun _ _ => rfl⟩
  · obtain ⟨h1, h2⟩ := hH.blk k B' hk
    exact ⟨h1, h2.mono hext rfl fun _ _ => rfl⟩

/-- A slice of no rows that has no block of its own. -/
theorem step_absent (hH : HRel F w μ H nx) {ty e : Nat} {cell : Nat → Nat → IV} :
    Ext F w (Own F H μ) μ w (Own F (updH H [(nx, some (.rows ty e 0 cell))]) μ) μ ∧ HRel F w μ (updH H [(nx, some (.rows ty e 0 cell))]) (nx + 1) := by
  have hnone : μ nx = none := by
    cases h : μ nx with
    | none => rfl
    | some m => have := (hH.lt nx m h).1; omega
  have hown : ∀ m, Own F (updH H [(nx, some (.rows ty e 0 cell))]) μ m → Own F H μ m := by
    rintro m (hF | ⟨k, hk, hm⟩)
    · exact .inl hF
    rw [updH_one] at hk
    split at hk
    · rename_i h; subst h; rw [hnone] at hm; cases hm
    · exact .inr ⟨k, hk, hm⟩
  have hext := ext_sub (F := F) (w := w) (μ := μ) hown
  refine ⟨hext, ⟨fun k B' hk => ?_, fun k k' m hk hk' hm hm' => ?_, fun k m hm => ?_, fun k m hk hm => ?_, hH.frn⟩⟩
  rotate_right
  · rw [updH_one] at hk
    split at hk
    · rename_i h; subst h; rw [hnone] at hm; cases hm
    · exact hH.dis k m hk hm
  · rw [updH_one] at hk
    split at hk
    · rename_i h; subst h; simp only [Option.some.injEq] at hk; subst hk; exact ⟨by omega, .inl ⟨hnone, rfl⟩⟩
    · obtain ⟨h1, h2⟩ := hH.blk k B' hk
      exact ⟨by omega, h2.mono hext rfl fun _ _ => rfl⟩
  · have aux : ∀ k, ((updH H [(nx, some (.rows ty e 0 cell))]) k).isSome = true → μ k = some m → (H k).isSome = true := by
      intro k hk hm
      rw [updH_one] at hk
      split at hk
      · rename_i h; subst h; rw [hnone] at hm; cases hm
      · exact hk
    exact hH.inj k k' m (aux k hk hm) (aux k' hk' hm') hm hm'
  · have := hH.lt k m hm; omega
end
end Go.Proofs.YtmpddomgiplnmaaDoor.Abs

/-
  OPERATIONS THAT MAKE OR WRITE MEMORY (2): operation by operation.
-/
namespace Go.Proofs.YtmpddomgiplnmaaDoor.Abs
open Go

section
variable {P : Program} {T : Lays} {F : Nat → Prop} {w : World} {μ : Nat → Option Nat} {H : Nat → Option ABlk} {nx : Nat} {E : Nat → SV} {a : Act}

/-- An operation does its work: a value (or none), a later world, in which the state is related. -/
def Does (P : Program) (F : Nat → Prop) (w : World) (H : Nat → Option ABlk) (μ : Nat → Option Nat) (_nx : Nat) (a : Act) (o : Oper) (x : SV) (H' : Nat → Option ABlk) (nx' : Nat) : Prop :=
  ∃ v w' μ', ((execOp a.eval o).run P w = .ok (.value v) w' ∨ ((execOp a.eval o).run P w = .ok .skip w' ∧ v = Go.undef)) ∧ Ext F w (Own F H μ) μ w' (Own F H' μ') μ' ∧ HRel F w' μ' H' nx' ∧ SRel w' (Own F H' μ') μ' x v

theorem does_box {o : Oper} {t : TypeId} {x : Operand} {c : CV} (hH : HRel F w μ H nx) (hE : ERel w (Own F H μ) μ E a) (ho : o.op = .box t x) (hx : rd E x = .cv c) (hn : need E x) :
    Does P F w H μ nx a o (.cv (.one (.own nx 0 0 0))) (updH H [(nx, some (.var t c.cells))]) (nx + 1) := by
  have hc := rd_cv hE hx hn
  obtain ⟨μ', h1, h2, h3⟩ := step_alloc (w := w) (w' := w.alloc (.cells (a.eval x).cells t)) (B := .var t c.cells) hH rfl rfl rfl rfl (fun c t fz h => by cases h; rfl) fun O' μ' hext hm =>
    ⟨w.heap.size, (a.eval x).cells, hm, heap_alloc_new w _, (CRel.cells hc).mono hext⟩
  exact ⟨.pointer (some ⟨w.heap.size, 0, none⟩), _, μ', .inl (by simp [execOp, ho, Instr.box, newVar, newRow]), h1, h2, ⟨w.heap.size, h3, by simp⟩⟩

/-- An iterator over a map. -/
theorem does_range {o : Oper} {t k e : TypeId} {x : Operand} {sz by_ : Nat} {z : List Value} {ka va : Bool} {kks : List IntKind} {vn : Nat} {dom : List Int → Bool} {val : List Int → Nat → IV} (hT : LayOk P T) (hH : HRel F w μ H nx) (hE : ERel w (Own F H μ) μ E a) (ho : o.op = .range t x) (hL : T t = some ⟨.map k e, sz, by_, z⟩) (hx : rd E x = .cv (.one (.imm (.mp ka kks va vn dom val)))) (hn : need E x) :
    Does P F w H μ nx a o (.cv (.one (.own nx 0 0 0))) (updH H [(nx, some (.it ka kks va vn dom val []))]) (nx + 1) := by
  have hv : IRel w (Own F H μ) (.mp ka kks va vn dom val) (a.eval x) := rd_one hE hx hn
  obtain ⟨m, es, clock, e1, g1, g2, g3, g4, g5, g6⟩ := id hv
  rw [e1] at hv
  have hu : P.underlying t = some (.map k e) := by
    obtain ⟨i, d, _, _, _, _, hd, hk⟩ := lay_info (hT t _ hL)
    cases d <;> simp [kindOf] at hk
    obtain ⟨rfl, rfl⟩ := hk
    exact hd
  obtain ⟨μ', h1, h2, h3⟩ := step_alloc (w := w) (w' := w.alloc (.mapIter (some m) clock #[] clock)) (B := .it ka kks va vn dom val []) hH rfl rfl rfl rfl (fun c t fz h => by cases h) fun O' μ' hext hm =>
    ⟨w.heap.size, m, es, clock, [], hm, heap_alloc_new w _, (hext.keep m g2 g1).trans g3, g4, by simp, rfl, by simp, hv.mono hext⟩
  exact ⟨.pointer (some ⟨w.heap.size, 0, none⟩), _, μ', .inl (by simp [execOp, ho, e1, Instr.range, run_underlying hu, run_getObj_map g3]), h1, h2, ⟨w.heap.size, h3, by simp⟩⟩
/-- A string's bytes: a row of its own, that is never written. -/
theorem does_bytes {o : Oper} {s d e : TypeId} {x : Operand} {L : Lay} {sz by_ sz2 by2 : Nat} {z z2 : List Value} {b : ByteArray} (hT : LayOk P T) (hH : HRel F w μ H nx) (hE : ERel w (Own F H μ) μ E a) (ho : o.op = .convert s d x) (hs : T s = some L) (hd : T d = some ⟨.sl e, sz, by_, z⟩) (he : T e = some ⟨.int .u8, sz2, by2, z2⟩) (hx : rd E x = .cv (.one (.imm (.val (.string b))))) (hn : need E x) (hb : b.size ≤ 9223372036854775806) :
    Does P F w H μ nx a o (.cv (.one (.imm (.sl 1 b.size false fun i _ => .val (.int .u8 (b.data.getD i 0).toNat))))) (updH H []) (nx + 1) := by
  have hv : IRel w (Own F H μ) (.val (.string b)) (a.eval x) := rd_one hE hx hn
  obtain ⟨_, ds, _, _, _, _, hds, _⟩ := lay_info (hT s L hs)
  have hold := fun j hj => Lib.bytesWorld_at_old w e b j hj
  have hsz := Lib.bytesWorld_size w e b
  have hext : Ext F w (Own F H μ) μ (Lib.bytesWorld w e b) (Own F H μ) μ :=
    ⟨rfl, rfl, rfl, by omega, fun j hj _ => hold j hj, fun j cur t fz hj => ⟨cur, (hold j (Array.getElem?_eq_some_iff.1 hj).1).trans hj, rfl⟩, fun _ _ h => h, fun _ h => .inl h, fun j hj _ => hold j hj, fun ad ha => frozen_same (hold ad.block ha), Nat.le_succ _⟩
  have hH' : HRel F (Lib.bytesWorld w e b) μ H (nx + 1) := by
    refine ⟨fun k B hk => ?_, hH.inj, fun k m hm => ?_, hH.dis, fun m hm => ?_⟩
    · obtain ⟨h1, h2⟩ := hH.blk k B hk
      exact ⟨by omega, h2.mono hext rfl fun m hm => hold m (hH.lt k m hm).2⟩
    · have := hH.lt k m hm
      exact ⟨by omega, by omega⟩
    · have := hH.frn m hm
      omega
  have hfresh : ¬ Own F H μ w.heap.size := by
    rintro (h | ⟨k, _, h⟩)
    · have := hH.frn _ h
      omega
    · have := (hH.lt k _ h).2
      omega
  have hcap : b.size ≤ grownCap w b.size 0 e ∧ grownCap w b.size 0 e ≤ 9223372036854775807 := by
    show b.size ≤ b.size + w.tape w.drawn (.appendCap b.size 0 e) % (2 ^ 63 - b.size) ∧ b.size + w.tape w.drawn (.appendCap b.size 0 e) % (2 ^ 63 - b.size) ≤ 9223372036854775807
    have hq : (2 : Nat) ^ 63 = 9223372036854775808 := by decide
    have := Nat.mod_lt (w.tape w.drawn (.appendCap b.size 0 e)) (show 0 < 2 ^ 63 - b.size by omega)
    omega
  refine ⟨.slice (some ⟨w.heap.size, 0, none⟩) b.size (grownCap w b.size 0 e), Lib.bytesWorld w e b, μ, .inl ?_, hext, hH', ?_⟩
  · simp only [execOp, ho, hv.1, Sem.run_bind, Lib.run_convert_string_bytes w s d e b hds (under_sl (hT d _ hd)) (under_int (hT e _ he)), Result.andThen_ok, Sem.run_pure]
  · refine .inr ⟨w.heap.size, 0, _, rfl, hcap.1, hcap.2, fun h => (by cases h), hfresh, by omega, fun i hi j hj => ?_⟩
    obtain rfl : j = 0 := by omega
    refine ⟨_, ?_, rfl, rfl⟩
    rw [show 0 + i * 1 + 0 = i by omega, Lib.bytesWorld_cell w e b i hi]
    congr 3
    have hi' : i < b.data.size := hi
    have h1 : b.data.toList.getD i 0 = b.data[i] := by
      rw [List.getD_eq_getElem?_getD, Array.getElem?_toList, Array.getElem?_eq_getElem hi']
      rfl
    have h2 : b.data.getD i 0 = b.data[i] := by
      unfold Array.getD
      rw [dif_pos hi']
      rfl
    rw [h1, h2]
theorem does_alloc {o : Oper} {t : TypeId} {L : Lay} (hT : LayOk P T) (hZ : ZeroOk T) (hH : HRel F w μ H nx) (ho : o.op = .alloc t) (hL : T t = some L) :
    Does P F w H μ nx a o (.cv (.one (.own nx 0 0 0))) (updH H [(nx, some (.var t (zeros L)))]) (nx + 1) := by
  obtain ⟨z, hz, hc⟩ := run_zeroValue (hT t L hL) w
  obtain ⟨μ', h1, h2, h3⟩ := step_alloc (w := w) (w' := w.alloc (.cells z.cells t)) (B := .var t (zeros L)) hH rfl rfl rfl rfl (fun c t fz h => by cases h; rfl) fun O' μ' hext hm =>
    ⟨w.heap.size, z.cells, hm, heap_alloc_new w _, by rw [hc]; exact zeros_rel (hT t L hL) (hZ t L hL)⟩
  refine ⟨.pointer (some ⟨w.heap.size, 0, none⟩), _, μ', .inl ?_, h1, h2, ⟨w.heap.size, h3, by simp⟩⟩
  simp [execOp, ho, Instr.alloc, hz, newVar, newRow]

theorem toIVs_get : ∀ (l : List AV) (xs : List IV), toIVs l = some xs → xs.length = l.length ∧ ∀ (i : Nat) x, l[i]? = some x → ∃ y, xs[i]? = some y ∧ x = .imm y
  | [], xs, h => by simp [toIVs] at h; subst h; exact ⟨rfl, fun i x hx => by simp at hx⟩
  | x :: l, xs, h => by
    simp only [toIVs] at h
    split at h
    · rename_i y ys hy hys
      cases h
      obtain ⟨h1, h2⟩ := toIVs_get l ys hys
      refine ⟨by simp [h1], fun i z hz => ?_⟩
      cases i with
      | zero =>
        simp at hz; subst hz
        cases x <;> simp [toIV] at hy
        subst hy
        exact ⟨_, rfl, rfl⟩
      | succ i => simp at hz; simpa using h2 i z hz
    · cases h

/-- Cells of immutable data, read by place. -/
theorem toIVs_rel {O : Nat → Prop} {l : List AV} {xs : List IV} {cs : List Value} (h : toIVs l = some xs) (hl : LRel w O μ l cs) (k : Nat) (hk : k < cs.length) : ∃ u, cs[k]? = some u ∧ IRel w O (xs.getD k ivDef) u := by
  obtain ⟨h1, h2⟩ := toIVs_get l xs h
  have hkl : k < l.length := by rw [← hl.1]; exact hk
  obtain ⟨y, hy, hxy⟩ := h2 k l[k] (List.getElem?_eq_getElem hkl)
  refine ⟨cs[k], List.getElem?_eq_getElem hk, ?_⟩
  have hr := hl.2 k l[k] cs[k] (List.getElem?_eq_getElem hkl) (List.getElem?_eq_getElem hk)
  rw [hxy] at hr
  rw [List.getD_eq_getElem?_getD, hy]
  exact hr

theorem repZ_rel {O : Nat → Prop} {L : Lay} {z : List Value} (hz : LRel w O μ (zeros L) z) : ∀ n, LRel w O μ (repZ L n) (List.replicate n z).flatten
  | 0 => LRel.nil
  | n + 1 => by
    rw [List.replicate_succ, List.flatten_cons]
    exact hz.append (repZ_rel hz n)

theorem range_mod (z : List Value) (n : Nat) (hz : 0 < z.length) : ((Array.range (n * z.length)).map (z.toArray[· % z.toArray.size]!)).toList = (List.replicate n z).flatten := by
  apply List.ext_getElem?
  intro i
  simp only [Array.toList_map, Array.toList_range, List.getElem?_map, List.size_toArray]
  by_cases hi : i < n * z.length
  · rw [List.getElem?_range hi]
    have hmod : i % z.length < z.length := Nat.mod_lt _ hz
    simp only [Option.map_some]
    have : (List.replicate n z).flatten[i]? = z[i % z.length]? := by
      clear hmod
      induction n generalizing i with
      | zero => omega
      | succ n ih =>
        rw [List.replicate_succ, List.flatten_cons, List.getElem?_append]
        by_cases hlt : i < z.length
        · rw [if_pos hlt, Nat.mod_eq_of_lt hlt]
        · rw [if_neg hlt, ih (i - z.length) (by rw [Nat.succ_mul] at hi; omega)]
          have : i % z.length = (i - z.length) % z.length := by rw [Nat.mod_eq_sub_mod (by omega)]
          rw [this]
    rw [this, List.getElem?_eq_getElem hmod]
    simp [getElem!_pos, hmod]
  · rw [List.getElem?_eq_none (by simp; omega), Option.map_none]
    symm
    apply List.getElem?_eq_none
    simp
    omega

theorem zero_len {t : TypeId} {L : Lay} (hT : LayOk1 P t L) (h : ∀ i, P.info? t = some i → ∀ z, i.zero = some z → z.cells.size = i.size) : L.zero.length = L.size := by
  obtain ⟨i, d, hi, hs, _, ⟨z, hz, hc⟩, _, _⟩ := lay_info hT
  have := h i hi z hz
  rw [← hc, Array.length_toList, this, hs]

/-- The table's zero values have as many cells as the type. -/
def SizeOk (T : Lays) : Prop := ∀ t x, T t = some x → x.zero.length = x.size

theorem does_buildSlice {o : Oper} {t e : TypeId} {len : Nat} {parts : Array (Nat × Operand)} {s b : Nat} {z : List Value} {L : Lay} {l : List AV} {p : Prop} {xs : List IV} (hT : LayOk P T) (hZ : ZeroOk T) (hS : SizeOk T) (hH : HRel F w μ H nx) (hE : ERel w (Own F H μ) μ E a)
    (ho : o.op = .buildSlice t len parts) (hL : T t = some ⟨.sl e, s, b, z⟩) (hF : T e = some L) (hsm : len * L.size ≤ 16777216) (h0 : L.size ≠ 0)
    (hf : fillA E L.size (repZ L len) parts.toList = some (l, p)) (hx : toIVs l = some xs) (hp : p) :
    Does P F w H μ nx a o (.cv (.one (.osl nx L.size 0 0 len true))) (updH H [(nx, some (.rows e L.size len fun i j => xs.getD (i * L.size + j) ivDef))]) (nx + 1) := by
  have hu := under_sl (hT t _ hL)
  have hsz := run_sizeOf (hT e L hF) w
  obtain ⟨zv, hzr, hzc⟩ := run_zeroValue (hT e L hF) w
  have hzl := hS e L hF
  have hz1 := zeros_rel (O := Own F H μ) (μ := μ) (w := w) (hT e L hF) (hZ e L hF)
  obtain ⟨r, hr, hl⟩ := fillA_sound hE parts.toList _ _ l p (repZ_rel hz1 len) hf hp
  -- the length of what is filled
  have hlen : ∀ (ps : List (Nat × Value)) (cs r : Array Value), Instr.fill (fun i => some (i * L.size, L.size)) cs ps = some r → r.size = cs.size := by
    intro ps
    induction ps with
    | nil => intro cs r h; simp [Instr.fill] at h; subst h; rfl
    | cons q ps ih =>
      intro cs r h
      obtain ⟨i, v⟩ := q
      simp only [Instr.fill] at h
      by_cases hc : v.cells.size ≠ L.size ∨ i * L.size + v.cells.size > cs.size
      · rw [if_pos (by simp only [Bool.or_eq_true, decide_eq_true_eq]; exact hc)] at h; cases h
      · rw [if_neg (by simp only [Bool.or_eq_true, decide_eq_true_eq]; exact hc)] at h
        have := ih _ r h
        rw [this]
        have hge : i * L.size + v.cells.size ≤ cs.size := by
          rcases Nat.lt_or_ge cs.size (i * L.size + v.cells.size) with h' | h'
          · exact absurd (.inr h') hc
          · exact h'
        have hh := congrArg List.length (foldl_set v.cells.toList 0 (i * L.size) cs (by simpa using hge))
        rw [← Array.foldl_toList, Array.toList_zipIdx, ← Array.length_toList (xs := List.foldl _ _ _), hh]
        simp
        omega
  have hrs : r.length = len * L.size := by
    have := hlen _ _ _ hr
    simp only [List.size_toArray] at this
    rw [this]
    simp [hzl]
  have hrun : (execOp a.eval o).run P w = .ok (.value (.slice (some ⟨w.heap.size, 0, none⟩) len len)) (w.alloc (.cells r.toArray e)) := by
    have hfill : Instr.fill (fun i => some (i * L.size, L.size)) ((Array.range (len * L.size)).map (zv.cells[· % zv.cells.size]!)) (parts.map fun (i, x) => (i, a.eval x)).toList = some r.toArray := by
      rw [Array.toList_map, ← hr]
      congr 1
      apply Array.toList_inj.1
      rw [hzc]
      have := range_mod L.zero len (by rw [hzl]; omega)
      rw [hzl] at this
      simpa [hzl] using this
    by_cases hz0 : len * L.size = 0
    · have hr0 : r = [] := List.eq_nil_of_length_eq_zero (by rw [hrs, hz0])
      subst hr0
      have hsm' : ¬ (len * L.size > 2 ^ 24) := by omega
      have e0 : ((Array.range (len * L.size)).map (zv.cells[· % zv.cells.size]!)) = #[] := by rw [hz0, Array.range_zero']; exact Array.map_empty
      rw [e0] at hfill
      have e1 : ((Array.range (len * L.size)).map ((#[] : Array Value)[· % (#[] : Array Value).size]!)) = #[] := by rw [hz0, Array.range_zero']; exact Array.map_empty
      simp only [execOp, ho, Instr.buildSlice, Sem.run_bind, run_underlying hu, Result.andThen_ok, hsz, Sem.run_ite, hsm', if_false, Sem.run_pure, if_pos hz0, e1, hfill, newRow, run_newObj]
      rfl
    · have hsm' : ¬ (len * L.size > 2 ^ 24) := by omega
      simp only [execOp, ho, Instr.buildSlice, Sem.run_bind, run_underlying hu, Result.andThen_ok, hsz, Sem.run_ite, hsm', if_false, Sem.run_pure, hz0, hzr, hfill, newRow, run_newObj]
      rfl
  obtain ⟨μ', h1, h2, h3⟩ := step_alloc (w := w) (w' := w.alloc (.cells r.toArray e)) (B := .rows e L.size len fun i j => xs.getD (i * L.size + j) ivDef) hH rfl rfl rfl rfl (fun c t fz h => by cases h; rfl) fun O' μ' hext hm => by
    refine .inr ⟨w.heap.size, r.toArray, hm, heap_alloc_new w _, by simp [hrs], fun i hi j hj => ?_⟩
    have hk : i * L.size + j < r.length := by
      rw [hrs]
      calc i * L.size + j < i * L.size + L.size := by omega
        _ = (i + 1) * L.size := by rw [Nat.succ_mul]
        _ ≤ len * L.size := Nat.mul_le_mul_right _ hi
    obtain ⟨u, hu1, hu2⟩ := toIVs_rel hx hl _ hk
    exact ⟨u, by simpa using hu1, hu2.mono hext⟩
  refine ⟨_, _, μ', .inl hrun, h1, h2, .inr ⟨w.heap.size, len, h3, by simp, Nat.le_refl _, ?_, fun _ => ⟨rfl, rfl, r.toArray, e, heap_alloc_new w _, by simp [hrs]⟩⟩⟩
  have : len ≤ len * L.size := Nat.le_mul_of_pos_right _ (by omega)
  simp only [maxLen]
  omega

theorem does_makeSlice {o : Oper} {t e : TypeId} {l c : Operand} {s b : Nat} {z : List Value} {L : Lay} {kn km : IntKind} {n m : Int} (hT : LayOk P T) (hZ : ZeroOk T) (hS : SizeOk T) (hH : HRel F w μ H nx) (hE : ERel w (Own F H μ) μ E a)
    (ho : o.op = .makeSlice t l c) (hL : T t = some ⟨.sl e, s, b, z⟩) (hF : T e = some L) (_h0 : L.size ≠ 0) (hl : rd E l = .cv (.one (.imm (.val (.int kn n))))) (hc : rd E c = .cv (.one (.imm (.val (.int km m))))) (hnl : need E l) (hnc : need E c)
    (h1 : 0 ≤ n) (h2 : n ≤ m) (h3 : (L.bytes : Int) * m ≤ 281474976710656) (h4 : m ≤ 9223372036854775807) :
    Does P F w H μ nx a o (.cv (.one (.osl nx L.size 0 0 n.toNat true))) (updH H [(nx, some (.rows e L.size n.toNat fun _ j => zeroIV L j))]) (nx + 1) := by
  have hu := under_sl (hT t _ hL)
  obtain ⟨i, d, hi, hsz, hby, ⟨zv, hz, hzc⟩, _, _⟩ := lay_info (hT e L hF)
  have e1 := rd_val hE hl hnl
  have e2 := rd_val hE hc hnc
  have hzl := hS e L hF
  have hrun := run_make (P := P) w t e i zv hu hi hz kn km n m h1 h2 (by rw [hby]; exact h3) h4
  rw [hsz] at hrun
  have hzc' : zv.cells = L.zero.toArray := by apply Array.toList_inj.1; simp [hzc]
  have hget : ∀ i' j, i' * L.size + j < m.toNat * L.size → j < L.size → ∃ u, (madeCells zv.cells (m.toNat * L.size))[i' * L.size + j]? = some u ∧ ∀ O', IRel w O' (zeroIV L j) u := by
    intro i' j hk hj
    refine ⟨L.zero[j]'(by omega), ?_, fun O' => ?_⟩
    · simp only [madeCells, Array.getElem?_map]
      rw [Array.getElem?_range, if_pos hk]
      simp only [Option.map_some, hzc', List.size_toArray, hzl]
      have : (i' * L.size + j) % L.size = j := by rw [Nat.mul_comm, Nat.mul_add_mod, Nat.mod_eq_of_lt hj]
      rw [this]
      simp [getElem!_pos, hzl, hj]
    · have h1' := hZ e L hF
      rw [List.all_eq_true] at h1'
      have := ivOf_rel (w := w) (O := O') (h1' (L.zero[j]'(by omega)) (List.getElem_mem _))
      simpa [zeroIV, List.getD_eq_getElem?_getD, List.getElem?_eq_getElem (show j < L.zero.length by omega)] using this
  have hnm : n.toNat ≤ m.toNat := by omega
  obtain ⟨μ', q1, q2, q3⟩ := step_alloc (w := w) (w' := w.alloc (.cells (madeCells zv.cells (m.toNat * L.size)) e)) (B := .rows e L.size n.toNat fun _ j => zeroIV L j) hH rfl rfl rfl rfl (fun c t fz h => by cases h; rfl) fun O' μ' hext hm => by
    refine .inr ⟨w.heap.size, _, hm, heap_alloc_new w _, ?_, fun i' hi' j hj => ?_⟩
    · rw [size_madeCells]; exact Nat.mul_le_mul_right _ hnm
    · have hk : i' * L.size + j < m.toNat * L.size := by
        calc i' * L.size + j < i' * L.size + L.size := by omega
          _ = (i' + 1) * L.size := by rw [Nat.succ_mul]
          _ ≤ m.toNat * L.size := Nat.mul_le_mul_right _ (by omega)
      obtain ⟨u, hu1, hu2⟩ := hget i' j hk hj
      exact ⟨u, hu1, (hu2 (Own F H μ)).mono hext⟩
  refine ⟨.slice (some ⟨w.heap.size, 0, none⟩) n.toNat m.toNat, _, μ', .inl (by simp [execOp, ho, e1, e2, hrun]), q1, q2, .inr ⟨w.heap.size, m.toNat, q3, by simp, hnm, ?_, fun _ => ⟨rfl, rfl, _, e, heap_alloc_new w _, by rw [size_madeCells]⟩⟩⟩
  simp only [maxLen]
  omega

theorem run_storeVar_at {t : TypeId} {L : Lay} {m o : Nat} {ty : TypeId} {cur : Array Value} {v : Value} (hT : LayOk1 P t L) (hw : w.heap[m]? = some (.cells cur ty (0, 0))) (hs : v.cells.size = L.size) (hfit : o + L.size ≤ cur.size) (h1 : ∀ u ∈ v.cells.toList, One u) :
    (storeVar t ⟨m, o, none⟩ v).run P w = .ok () (w.setRow m (cur.toList.take o ++ v.cells.toList ++ cur.toList.drop (o + L.size)).toArray) := by
  have hsz := run_sizeOf hT w
  have := run_storeCells_at P m o ty v.cells.toList 0 cur w hw (by simp [hs]; omega) h1
  simp only [Nat.add_zero, Array.length_toList, hs] at this
  simp [storeVar, hsz, hs, this]

theorem does_store_var {o : Oper} {t : TypeId} {x y : Operand} {L : Lay} {b e i j : Nat} {c : CV} {ty : TypeId} {cells : List AV} (hT : LayOk P T) (hH : HRel F w μ H nx) (hE : ERel w (Own F H μ) μ E a) (ho : o.op = .store t x y)
    (hL : T t = some L) (hx : rd E x = .cv (.one (.own b e i j))) (hy : rd E y = .cv c) (hnx : need E x) (hny : need E y) (hlen : lenIs c.cells L.size = true) (hB : H b = some (.var ty cells)) (hfit : i * e + j + L.size ≤ cells.length) :
    Does P F w H μ nx a o .undef (updH H [(b, some (.var ty (setAt cells (i * e + j) c.cells)))]) (nx + 1) := by
  obtain ⟨m, hm, hv⟩ := rd_one hE hx hnx
  have hc := CRel.cells (rd_cv hE hy hny)
  obtain ⟨m', cur, hm', hw, hl⟩ := (hH.blk b _ hB).2
  obtain rfl : m' = m := by rw [hm] at hm'; exact (Option.some.inj hm').symm
  have hcl := lenIs_eq _ _ hlen
  have hvs : (a.eval y).cells.size = L.size := by rw [← Array.length_toList, hc.1, hcl]
  have hcs : cur.size = cells.length := by rw [← Array.length_toList, hl.1]
  have hrun := run_storeVar_at (P := P) (w := w) (hT t L hL) hw hvs (o := i * e + j) (by omega) hc.one
  have hsize : (cur.toList.take (i * e + j) ++ (a.eval y).cells.toList ++ cur.toList.drop (i * e + j + L.size)).toArray.size = cur.size := by
    simp [hvs]; omega
  obtain ⟨h1, h2⟩ := step_write (nx := nx) hH hB hm hw hsize (B := .var ty (setAt cells (i * e + j) c.cells)) fun hext => by
    refine ⟨m', _, hm, setRow_heap w m' cur _ ty _ hw, ?_⟩
    have := setAt_rel (off := i * e + j) hl hc
    rw [Array.length_toList, hvs] at this
    exact this.mono hext
  refine ⟨Go.undef, _, μ, .inr ⟨?_, rfl⟩, h1, h2, trivial⟩
  simp [execOp, ho, hv, Instr.storeAt, Instr.sureAddr, hrun]

theorem does_store_rows {o : Oper} {t : TypeId} {x y : Operand} {L : Lay} {b e i j : Nat} {c : CV} {ty n : Nat} {cell : Nat → Nat → IV} {xs : List IV} (hT : LayOk P T) (hH : HRel F w μ H nx) (hE : ERel w (Own F H μ) μ E a) (ho : o.op = .store t x y)
    (hL : T t = some L) (hx : rd E x = .cv (.one (.own b e i j))) (hy : rd E y = .cv c) (hnx : need E x) (hny : need E y) (hlen : lenIs c.cells L.size = true) (hB : H b = some (.rows ty e n cell)) (hxs : toIVs c.cells = some xs) (hj : j + L.size ≤ e) (hi : i < n) :
    Does P F w H μ nx a o .undef (updH H [(b, some (.rows ty e n fun i' j' => bif Nat.beq i' i && (Nat.ble j j' && Nat.blt j' (j + L.size)) then xs.getD (j' - j) ivDef else cell i' j'))]) (nx + 1) := by
  obtain ⟨m, hm, hv⟩ := rd_one hE hx hnx
  have hc := CRel.cells (rd_cv hE hy hny)
  rcases (hH.blk b _ hB).2 with ⟨hm', _⟩ | ⟨m', cur, hm', hw, hsz, hcell⟩
  · rw [hm] at hm'; cases hm'
  obtain rfl : m' = m := by rw [hm] at hm'; exact (Option.some.inj hm').symm
  have hcl := lenIs_eq _ _ hlen
  have hvs : (a.eval y).cells.size = L.size := by rw [← Array.length_toList, hc.1, hcl]
  have hfit : i * e + j + L.size ≤ cur.size := by
    have : (i + 1) * e ≤ n * e := Nat.mul_le_mul_right _ hi
    rw [Nat.succ_mul] at this
    omega
  have hrun := run_storeVar_at (P := P) (w := w) (hT t L hL) hw hvs (o := i * e + j) hfit hc.one
  have hsize : (cur.toList.take (i * e + j) ++ (a.eval y).cells.toList ++ cur.toList.drop (i * e + j + L.size)).toArray.size = cur.size := by
    simp [hvs]; omega
  obtain ⟨h1, h2⟩ := step_write (nx := nx) hH hB hm hw hsize (B := .rows ty e n fun i' j' => bif Nat.beq i' i && (Nat.ble j j' && Nat.blt j' (j + L.size)) then xs.getD (j' - j) ivDef else cell i' j') fun hext => by
    refine .inr ⟨m', _, hm, setRow_heap w m' cur _ ty _ hw, by rw [hsize]; exact hsz, fun i' hi' j' hj' => ?_⟩
    have hk : i' * e + j' < cur.size := by
      have : (i' + 1) * e ≤ n * e := Nat.mul_le_mul_right _ hi'
      rw [Nat.succ_mul] at this
      omega
    have htl : (cur.toList.take (i * e + j)).length = i * e + j := by simp; omega
    cases hcnd : (Nat.beq i' i && (Nat.ble j j' && Nat.blt j' (j + L.size))) with
    | true =>
      have hc0 := hcnd
      simp only [Bool.and_eq_true] at hcnd
      obtain ⟨c1, c2, c3⟩ := hcnd
      have c1 := Nat.eq_of_beq_eq_true c1
      have c2 := Nat.le_of_ble_eq_true c2
      have c3 : j' < j + L.size := Nat.le_of_ble_eq_true c3
      subst c1
      obtain ⟨u, hu1, hu2⟩ := toIVs_rel hxs hc (j' - j) (by rw [Array.length_toList, hvs]; omega)
      refine ⟨u, ?_, by show IRel _ _ (bif _ then _ else _) u; rw [hc0]; exact hu2.mono hext⟩
      rw [← Array.getElem?_toList, List.append_assoc, List.getElem?_append_right (by rw [htl]; omega), htl, List.getElem?_append_left (by rw [Array.length_toList, hvs]; omega)]
      rw [← hu1]
      congr 1
      omega
    | false =>
      obtain ⟨u, hu1, hu2⟩ := hcell i' hi' j' hj'
      refine ⟨u, ?_, by show IRel _ _ (bif _ then _ else _) u; rw [hcnd]; exact hu2.mono hext⟩
      have hne : i' * e + j' < i * e + j ∨ i * e + j + L.size ≤ i' * e + j' := by
        rcases Nat.lt_trichotomy i' i with h | h | h
        · have : (i' + 1) * e ≤ i * e := Nat.mul_le_mul_right _ h
          rw [Nat.succ_mul] at this
          omega
        · subst h
          rcases Nat.lt_or_ge j' j with h2 | h2
          · omega
          · rcases Nat.lt_or_ge j' (j + L.size) with h3 | h3
            · exfalso
              have e1 : Nat.beq i' i' = true := by simp
              have e2 : Nat.ble j j' = true := Nat.ble_eq_true_of_le h2
              have e3 : Nat.blt j' (j + L.size) = true := Nat.ble_eq_true_of_le h3
              rw [e1, e2, e3] at hcnd
              cases hcnd
            · omega
        · have : (i + 1) * e ≤ i' * e := Nat.mul_le_mul_right _ h
          rw [Nat.succ_mul] at this
          omega
      rw [← Array.getElem?_toList]
      rcases hne with h | h
      · rw [List.append_assoc, List.getElem?_append_left (by rw [htl]; exact h), List.getElem?_take, if_pos h]
        simpa using hu1
      · rw [List.getElem?_append_right (by simp [hvs]; omega), List.getElem?_drop, ← hu1]
        simp only [List.length_append, htl, Array.length_toList, hvs, Array.getElem?_toList]
        congr 1
        omega
  refine ⟨Go.undef, _, μ, .inr ⟨?_, rfl⟩, h1, h2, trivial⟩
  simp [execOp, ho, hv, Instr.storeAt, Instr.sureAddr, hrun]
end
end Go.Proofs.YtmpddomgiplnmaaDoor.Abs

/-
  OPERATIONS THAT MAKE OR WRITE MEMORY (3): append; the theorem 'evalM_sound' for all of them.
-/
namespace Go.Proofs.YtmpddomgiplnmaaDoor.Abs
open Go

section
variable {P : Program} {T : Lays} {F : Nat → Prop} {w : World} {μ : Nat → Option Nat} {H : Nat → Option ABlk} {nx : Nat} {E : Nat → SV} {a : Act}

/-- A slice's value, and its cells as a list. -/
def RowsAt (w : World) (O : Nat → Prop) (v : Value) (e m : Nat) (cell : Nat → Nat → IV) : Prop :=
  (m = 0 ∧ ∃ a' c, v = .slice a' 0 c) ∨ ∃ b o c, v = .slice (some ⟨b, o, none⟩) m c ∧ ∃ news : List Value, news.length = m * e ∧ (∀ (j : Nat) u, news[j]? = some u → w.cell? ⟨b, o + j, none⟩ = some u) ∧
    (∀ i, i < m → ∀ j, j < e → ∃ u, news[i * e + j]? = some u ∧ IRel w O (cell i j) u) ∧ ∀ u ∈ news, One u

theorem rowsAt_of {O : Nat → Prop} {b o e m : Nat} {cell : Nat → Nat → IV} (h : ∀ i, i < m → ∀ j, j < e → ∃ u, w.cell? ⟨b, o + i * e + j, none⟩ = some u ∧ IRel w O (cell i j) u) :
    ∃ news : List Value, news.length = m * e ∧ (∀ (j : Nat) u, news[j]? = some u → w.cell? ⟨b, o + j, none⟩ = some u) ∧ (∀ i, i < m → ∀ j, j < e → ∃ u, news[i * e + j]? = some u ∧ IRel w O (cell i j) u) ∧ ∀ u ∈ news, One u := by
  rcases Nat.eq_zero_or_pos e with he | he
  · subst he
    exact ⟨[], by simp, fun j u hu => by simp at hu, fun i _ j hj => by omega, fun u hu => by simp at hu⟩
  · obtain ⟨cs, hl, hc⟩ := collect (m * e) (fun k u => w.cell? ⟨b, o + k, none⟩ = some u ∧ IRel w O (cell (k / e) (k % e)) u) fun k hk => by
      have h1 : k / e < m := Nat.div_lt_of_lt_mul (by rw [Nat.mul_comm]; exact hk)
      obtain ⟨u, hu1, hu2⟩ := h (k / e) h1 (k % e) (Nat.mod_lt _ he)
      refine ⟨u, ?_, hu2⟩
      rw [← hu1]
      congr 2
      rw [Nat.add_assoc, Nat.mul_comm, Nat.div_add_mod]
    refine ⟨cs, hl, fun j u hu => (hc j u hu).1, fun i hi j hj => ?_, fun u hu => ?_⟩
    · have hk : i * e + j < cs.length := by
        rw [hl]
        calc i * e + j < i * e + e := by omega
          _ = (i + 1) * e := by rw [Nat.succ_mul]
          _ ≤ m * e := Nat.mul_le_mul_right _ hi
      refine ⟨cs[i * e + j], List.getElem?_eq_getElem hk, ?_⟩
      have := (hc _ _ (List.getElem?_eq_getElem hk)).2
      have e1 : (i * e + j) / e = i := by rw [Nat.mul_comm, Nat.mul_add_div he, Nat.div_eq_of_lt hj, Nat.add_zero]
      have e2 : (i * e + j) % e = j := by rw [Nat.mul_comm, Nat.mul_add_mod, Nat.mod_eq_of_lt hj]
      rwa [e1, e2] at this
    · obtain ⟨k, hk, rfl⟩ := List.mem_iff_getElem.1 hu
      exact (hc k _ (List.getElem?_eq_getElem hk)).2.one

theorem rows_sound (hH : HRel F w μ H nx) {r : AV} {v : Value} {e m : Nat} {cell : Nat → Nat → IV} {p : Prop} (hr : ARel w (Own F H μ) μ r v) (h : rowsOf H r = some (e, m, cell, p)) (hp : p) : RowsAt w (Own F H μ) v e m cell := by
  unfold rowsOf at h
  split at h
  · rename_i e' n ex cell'
    simp only [Option.some.injEq, Prod.mk.injEq] at h
    obtain ⟨rfl, rfl, rfl, _⟩ := h
    rcases hr with ⟨⟨a', rfl⟩, hn⟩ | ⟨b, o, cap, rfl, c1, c2, c3, c4, c5, c6⟩
    · exact .inl ⟨hn, a', 0, rfl⟩
    · obtain ⟨news, q⟩ := rowsAt_of c6
      exact .inr ⟨b, o, cap, rfl, news, q⟩
  · rename_i b e' r' j len app
    split at h
    · rename_i ty e'' n cell' hb
      cases hc : (Nat.beq e' e'' && Nat.beq j 0) with
      | false => rw [hc] at h; simp at h
      | true =>
        rw [hc] at h
        simp only [cond_true, Option.some.injEq, Prod.mk.injEq] at h
        obtain ⟨rfl, rfl, rfl, rfl⟩ := h
        simp only [plusN_eq]
        simp only [Bool.and_eq_true] at hc
        have h1 := Nat.eq_of_beq_eq_true hc.1
        have h2 := Nat.eq_of_beq_eq_true hc.2
        subst h1; subst h2
        rcases hr with ⟨rfl, hem⟩ | ⟨m', cap, hm, rfl, c1, c2, c3⟩
        · obtain ⟨a', rfl⟩ := hem; exact .inl ⟨rfl, a', 0, rfl⟩
        · rcases (hH.blk b _ hb).2 with ⟨hm', _⟩ | ⟨m2, cur, hm', hw, hsz, hcell⟩
          · rw [hm] at hm'; cases hm'
          obtain rfl : m2 = m' := by rw [hm] at hm'; exact (Option.some.inj hm').symm
          obtain ⟨news, q⟩ := rowsAt_of (w := w) (O := Own F H μ) (b := m2) (o := r' * e' + 0) (e := e') (m := len) (cell := fun i q => cell' (r' + i) q) fun i hi j hj => by
            obtain ⟨u, hu1, hu2⟩ := hcell (r' + i) (by omega) j hj
            refine ⟨u, ?_, hu2⟩
            simp only [World.cell?, hw]
            simp only [Nat.add_zero]
            rw [← hu1]
            simp only [Option.isSome_none, Bool.false_eq_true, if_false]
            congr 1
            rw [Nat.add_mul]
          exact .inr ⟨m2, _, cap, rfl, news, q⟩
    · cases h
  · cases h

/-- Rows behind rows. -/
theorem cells_append {O : Nat → Prop} {e n m : Nat} {c1 c2 : Nat → Nat → IV} {olds news rest : List Value} (ho : olds.length = n * e) (_hn : news.length = m * e)
    (h1 : ∀ i, i < n → ∀ j, j < e → ∃ u, olds[i * e + j]? = some u ∧ IRel w O (c1 i j) u) (h2 : ∀ i, i < m → ∀ j, j < e → ∃ u, news[i * e + j]? = some u ∧ IRel w O (c2 i j) u) :
    ∀ i, i < n + m → ∀ j, j < e → ∃ u, (olds ++ news ++ rest)[i * e + j]? = some u ∧ IRel w O (bif Nat.blt i n then c1 i j else c2 (i - n) j) u := by
  intro i hi j hj
  rcases Nat.lt_or_ge i n with h | h
  · obtain ⟨u, hu1, hu2⟩ := h1 i h j hj
    refine ⟨u, ?_, ?_⟩
    · have : i * e + j < olds.length := by
        rcases Nat.lt_or_ge (i * e + j) olds.length with h' | h'
        · exact h'
        · rw [List.getElem?_eq_none h'] at hu1; cases hu1
      rw [List.append_assoc, List.getElem?_append_left this]
      exact hu1
    · have : Nat.blt i n = true := Nat.ble_eq_true_of_le h
      rw [this]
      exact hu2
  · obtain ⟨u, hu1, hu2⟩ := h2 (i - n) (by omega) j hj
    have hik : i * e + j = n * e + ((i - n) * e + j) := by
      have : n * e + (i - n) * e = i * e := by rw [← Nat.add_mul]; congr 1; omega
      omega
    refine ⟨u, ?_, ?_⟩
    · have : (i - n) * e + j < news.length := by
        rcases Nat.lt_or_ge ((i - n) * e + j) news.length with h' | h'
        · exact h'
        · rw [List.getElem?_eq_none h'] at hu1; cases hu1
      rw [List.append_assoc, List.getElem?_append_right (by rw [ho, hik]; omega), ho, hik, Nat.add_sub_cancel_left, List.getElem?_append_left this]
      exact hu1
    · have : Nat.blt i n = false := by
        cases hb : Nat.blt i n with
        | false => rfl
        | true => have : i < n := Nat.le_of_ble_eq_true hb; omega
      rw [this]
      exact hu2

/-- A new array behind an append: the block that comes. -/
theorem fresh_rows {w' : World} (hH : HRel F w μ H nx) {e s n m cap : Nat} {olds news rest : List Value} {c1 c2 : Nat → Nat → IV} (_hs : 0 < s)
    (hos : w'.os = w.os) (htape : w'.tape = w.tape) (hout : w'.output = w.output) (hheap : w'.heap = w.heap.push (.cells (olds ++ news ++ rest).toArray e)) (hcap : n + m ≤ cap) (hmax : cap ≤ maxLen) (hrest : rest.length = (cap - (n + m)) * s)
    (ho : olds.length = n * s) (hn : news.length = m * s) (h1 : ∀ i, i < n → ∀ j, j < s → ∃ u, olds[i * s + j]? = some u ∧ IRel w (Own F H μ) (c1 i j) u) (h2 : ∀ i, i < m → ∀ j, j < s → ∃ u, news[i * s + j]? = some u ∧ IRel w (Own F H μ) (c2 i j) u) (hdr : w.drawn ≤ w'.drawn := by first | exact Nat.le_refl _ | exact Nat.le_succ _ | omega) :
    ∃ μ', Ext F w (Own F H μ) μ w' (Own F (updH H [(nx, some (.rows e s (n + m) fun i j => bif Nat.blt i n then c1 i j else c2 (i - n) j))]) μ') μ' ∧
      HRel F w' μ' (updH H [(nx, some (.rows e s (n + m) fun i j => bif Nat.blt i n then c1 i j else c2 (i - n) j))]) (nx + 1) ∧
      SRel w' (Own F (updH H [(nx, some (.rows e s (n + m) fun i j => bif Nat.blt i n then c1 i j else c2 (i - n) j))]) μ') μ' (.cv (.one (.osl nx s 0 0 (n + m) true))) (.slice (some ⟨w.heap.size, 0, none⟩) (n + m) cap) := by
  have hsz : (olds ++ news ++ rest).length = cap * s := by
    simp only [List.length_append, ho, hn, hrest]
    rw [← Nat.add_mul, ← Nat.add_mul]
    congr 1
    omega
  have hnew : w'.heap[w.heap.size]? = some (.cells (olds ++ news ++ rest).toArray e) := by rw [hheap]; simp
  obtain ⟨μ', q1, q2, q3⟩ := step_alloc hH hos htape hout hheap (fun c t fz h => by cases h; rfl) (B := .rows e s (n + m) fun i j => bif Nat.blt i n then c1 i j else c2 (i - n) j) fun O' μ' hext hm => by
    refine .inr ⟨w.heap.size, _, hm, hnew, ?_, fun i hi j hj => ?_⟩
    · rw [List.size_toArray, hsz]; exact Nat.mul_le_mul_right _ hcap
    · obtain ⟨u, hu1, hu2⟩ := cells_append (rest := rest) ho hn h1 h2 i hi j hj
      exact ⟨u, by simpa using hu1, hu2.mono hext⟩
  exact ⟨μ', q1, q2, .inr ⟨w.heap.size, cap, q3, by simp, hcap, hmax, fun _ => ⟨rfl, rfl, _, e, hnew, by rw [List.size_toArray, hsz]⟩⟩⟩

theorem run_append_zero {t ty e : TypeId} {L : Lay} {base : Option Addr} {n c : Nat} {v : Value} {a' : Option Addr} {c' : Nat} (hT : LayOk1 P e L) (hu : P.underlying t = some (.slice e)) (hv : v = .slice a' 0 c') (hnc : n ≤ c) (hb : base = none → n = 0) :
    (Builtin.append_ #[t, t] ty #[.slice base n c, v]).run P w = .ok (.slice base n c) w := by
  have hsz := run_sizeOf hT w
  subst hv
  cases a' with
  | none => cases base <;> simp [Builtin.append_, run_underlying hu, hsz, Builtin.lenOf, hnc, Builtin.firstCells, storeCells]
  | some a' => cases base <;> simp [Builtin.append_, run_underlying hu, hsz, Builtin.lenOf, hnc, Builtin.firstCells, loadCells, loadCellsFrom, storeCells]

theorem sub_bytes {n m b : Nat} (h : (n + m) * b ≤ 140737488355328) : m * b ≤ 281474976710656 := by
  have : m * b ≤ (n + m) * b := Nat.mul_le_mul_right _ (Nat.le_add_left _ _)
  omega

/-- append: the run, whatever the slice is. -/
theorem exec_append {o : Oper} {t : TypeId} {x y : Operand} (ho : o.op = .call { callee := .builtin .append, args := #[x, y], argTypes := #[t, t] }) {v : Value} {w' : World}
    (h : (Builtin.append_ #[t, t] o.type #[a.eval x, a.eval y]).run P w = .ok v w') : (execOp a.eval o).run P w = .ok (.value v) w' := by
  simp [execOp, ho, resolve, invoke, builtin, h]

theorem does_append_imm {o : Oper} {t e : TypeId} {x y : Operand} {sz by_ : Nat} {z : List Value} {L : Lay} {es n m : Nat} {ex : Bool} {cell cellr : Nat → Nat → IV} {r : AV} {pr : Prop} (hT : LayOk P T) (hZ : SizeOk T) (hH : HRel F w μ H nx) (hE : ERel w (Own F H μ) μ E a)
    (ho : o.op = .call { callee := .builtin .append, args := #[x, y], argTypes := #[t, t] }) (hL : T t = some ⟨.sl e, sz, by_, z⟩) (hF : T e = some L) (h0 : L.size ≠ 0)
    (hx : rd E x = .cv (.one (.imm (.sl es n ex cell)))) (hy : rd E y = .cv (.one r)) (hr : rowsOf H r = some (L.size, m, cellr, pr)) (hnx : need E x) (hny : need E y) (hp : pr)
    (hbytes : (n + m) * L.bytes ≤ 140737488355328) (hmax : n + m ≤ maxLen) (hes : es = L.size ∨ n = 0) (hex : ex = true) (hnm : n = 0 ∨ 0 < m) :
    Does P F w H μ nx a o (.cv (.one (.osl nx L.size 0 0 (n + m) true))) (updH H [(nx, some (.rows e L.size (n + m) fun i j => bif Nat.blt i n then cell i j else cellr (i - n) j))]) (nx + 1) := by
  have hu := under_sl (hT t _ hL)
  obtain ⟨i, d, hi, hsz, hby, ⟨zv, hz, hzc⟩, _, _⟩ := lay_info (hT e L hF)
  have hzs : zv.cells.size = L.size := by rw [← Array.length_toList, hzc, hZ e L hF]
  have hR := rows_sound hH (rd_one hE hy hny) hr hp
  have h63 : n + m ≤ 9223372036854775807 := by simp only [maxLen] at hmax; omega
  have hX : IRel w (Own F H μ) (.sl es n ex cell) (a.eval x) := rd_one hE hx hnx
  rcases hR with ⟨hm0, a', c', hyv⟩ | ⟨b, off, c', hyv, news, hnl, hncell, hnrel, hn1⟩
  · -- nothing is appended: then there is nothing
    have hn0 : n = 0 := by omega
    subst hn0; subst hm0
    obtain ⟨q1, q2⟩ := step_absent (w := w) hH (ty := e) (e := L.size) (cell := fun i j => bif Nat.blt i 0 then cell i j else cellr (i - 0) j)
    rcases hX with ⟨⟨a0, hv⟩, _⟩ | ⟨bx, ox, cap, hv, k1, k2, k3, k4, k5, _⟩
    · exact ⟨_, _, μ, .inl (exec_append ho (by rw [hv]; exact run_append_zero (hT e L hF) hu hyv (Nat.le_refl _) (fun _ => rfl))), q1, q2, .inl ⟨rfl, _, rfl⟩⟩
    · have := k3 hex
      subst this
      exact ⟨_, _, μ, .inl (exec_append ho (by rw [hv]; exact run_append_zero (hT e L hF) hu hyv (Nat.le_refl _) (fun _ => rfl))), q1, q2, .inl ⟨rfl, _, rfl⟩⟩
  · rcases Nat.eq_zero_or_pos m with hm0 | hm0
    · have hn0 : n = 0 := by omega
      subst hn0; subst hm0
      obtain ⟨q1, q2⟩ := step_absent (w := w) hH (ty := e) (e := L.size) (cell := fun i j => bif Nat.blt i 0 then cell i j else cellr (i - 0) j)
      rcases hX with ⟨⟨a0, hv⟩, _⟩ | ⟨bx, ox, cap, hv, k1, k2, k3, k4, k5, _⟩
      · exact ⟨_, _, μ, .inl (exec_append ho (by rw [hv]; exact run_append_zero (hT e L hF) hu hyv (Nat.le_refl _) (fun _ => rfl))), q1, q2, .inl ⟨rfl, _, rfl⟩⟩
      · have := k3 hex
        subst this
        exact ⟨_, _, μ, .inl (exec_append ho (by rw [hv]; exact run_append_zero (hT e L hF) hu hyv (Nat.le_refl _) (fun _ => rfl))), q1, q2, .inl ⟨rfl, _, rfl⟩⟩
    · rcases hX with ⟨⟨a0, hv⟩, hn0⟩ | ⟨bx, ox, cap, hv, k1, k2, k3, k4, k5, k6⟩
      · subst hn0
        cases a0 with
        | none =>
          have hrun := run_append_nil (P := P) w t o.type e i zv hu hi hz ⟨b, off, none⟩ m c' news (by rw [hnl, hsz]) (fun j u hu' => by rw [Addr.add_lit]; exact hncell j u hu') hm0 (by omega) (by rw [hby]; exact sub_bytes (n := 0) (by simpa using hbytes))
          obtain ⟨μ', q1, q2, q3⟩ := fresh_rows (w := w) (w' := w.drew.alloc (.cells (news.toArray ++ Builtin.zeroCells zv.cells (grownCap w m 0 e - m)) e)) (e := e) (s := L.size) (n := 0) (m := m) (cap := grownCap w m 0 e) (olds := []) (news := news) (rest := (Builtin.zeroCells zv.cells (grownCap w m 0 e - m)).toList) (c1 := cell) (c2 := cellr)
            hH (by omega) rfl rfl rfl (by show w.heap.push _ = _; congr 2; apply Array.toList_inj.1; simp) (by have := grownCap_ge w m 0 e; omega) (grownCap_le_maxLen w m 0 e (by omega)) (by rw [Array.length_toList, size_zeroCells, hzs]; simp) (by simp) hnl (fun i hi => by omega) hnrel
          refine ⟨_, _, μ', .inl (exec_append ho (by rw [hv, hyv]; exact hrun)), q1, q2, ?_⟩
          simpa using q3
        | some ad =>
          have hrun := run_append_grow (P := P) w t o.type e i zv hu hi hz ad 0 0 [] (by simp) (fun j u hu' => by simp at hu') ⟨b, off, none⟩ m c' news (by rw [hnl, hsz]) (fun j u hu' => by rw [Addr.add_lit]; exact hncell j u hu')
            (by omega) (by omega) (by rw [hby]; exact growslice_fits (by omega) (by simpa using hbytes))
          obtain ⟨μ', q1, q2, q3⟩ := fresh_rows (w := w) (w' := w.drew.alloc (.cells ((#[] : Array Value) ++ news.toArray ++ Builtin.zeroCells zv.cells (grownCap w (0 + m) 0 e - (0 + m))) e)) (e := e) (s := L.size) (n := 0) (m := m) (cap := grownCap w (0 + m) 0 e) (olds := []) (news := news) (rest := (Builtin.zeroCells zv.cells (grownCap w (0 + m) 0 e - (0 + m))).toList) (c1 := cell) (c2 := cellr)
            hH (by omega) rfl rfl rfl (by show w.heap.push _ = _; congr 2; apply Array.toList_inj.1; simp) (grownCap_ge w (0 + m) 0 e) (grownCap_le_maxLen w (0 + m) 0 e (by omega)) (by rw [Array.length_toList, size_zeroCells, hzs]) (by simp) hnl (fun i hi => by omega) hnrel
          exact ⟨_, _, μ', .inl (exec_append ho (by rw [hv, hyv]; exact hrun)), q1, q2, q3⟩
      · have := k3 hex
        subst this
        have holds : ∃ olds : List Value, olds.length = cap * L.size ∧ (∀ (j : Nat) u, olds[j]? = some u → w.cell? ⟨bx, ox + j, none⟩ = some u) ∧ (∀ i, i < cap → ∀ j, j < L.size → ∃ u, olds[i * L.size + j]? = some u ∧ IRel w (Own F H μ) (cell i j) u) := by
          rcases hes with rfl | hn0
          · obtain ⟨olds, p1, p2, p3, _⟩ := rowsAt_of k6
            exact ⟨olds, p1, p2, p3⟩
          · subst hn0
            exact ⟨[], by simp, fun j u hu' => by simp at hu', fun i hi => by omega⟩
        obtain ⟨olds, p1, p2, p3⟩ := holds
        have hrun := run_append_grow (P := P) w t o.type e i zv hu hi hz ⟨bx, ox, none⟩ cap cap olds (by rw [p1, hsz]) (fun j u hu' => by rw [Addr.add_lit]; exact p2 j u hu') ⟨b, off, none⟩ m c' news (by rw [hnl, hsz]) (fun j u hu' => by rw [Addr.add_lit]; exact hncell j u hu')
          (by omega) (by omega) (by rw [hby]; exact growslice_fits (by omega) hbytes)
        obtain ⟨μ', q1, q2, q3⟩ := fresh_rows (w := w) (w' := w.drew.alloc (.cells (olds.toArray ++ news.toArray ++ Builtin.zeroCells zv.cells (grownCap w (cap + m) cap e - (cap + m))) e)) (e := e) (s := L.size) (n := cap) (m := m) (cap := grownCap w (cap + m) cap e) (olds := olds) (news := news) (rest := (Builtin.zeroCells zv.cells (grownCap w (cap + m) cap e - (cap + m))).toList) (c1 := cell) (c2 := cellr)
          hH (by omega) rfl rfl rfl (by show w.heap.push _ = _; congr 2; apply Array.toList_inj.1; simp) (grownCap_ge w (cap + m) cap e) (grownCap_le_maxLen w (cap + m) cap e hmax) (by rw [Array.length_toList, size_zeroCells, hzs]) p1 hnl p3 hnrel
        exact ⟨_, _, μ', .inl (exec_append ho (by rw [hv, hyv]; exact hrun)), q1, q2, q3⟩

theorem updH_two {k b c : Nat} {B C : Option ABlk} : updH H [(b, B), (c, C)] k = if k = c then C else if k = b then B else H k := by
  show updH (updH H [(b, B)]) [(c, C)] k = _
  rw [updH_one, updH_one]

theorem updH_cons (b : Nat) (B : Option ABlk) (l : List (Nat × Option ABlk)) : updH H ((b, B) :: l) = updH (updH H [(b, B)]) l := rfl

theorem updH_over (b c : Nat) (B C D : Option ABlk) : updH H [(b, B), (b, C), (c, D)] = updH H [(b, C), (c, D)] := by
  funext k
  show updH (updH (updH H [(b, B)]) [(b, C)]) [(c, D)] k = updH (updH H [(b, C)]) [(c, D)] k
  rw [updH_one, updH_one, updH_one, updH_one, updH_one]
  split
  · rfl
  · split
    · rfl
    · rfl

theorem does_append_osl {o : Oper} {t e : TypeId} {x y : Operand} {sz by_ : Nat} {z : List Value} {L : Lay} {b n n' m : Nat} {cell cellr : Nat → Nat → IV} {r : AV} {pr : Prop} (hT : LayOk P T) (hZ : SizeOk T) (hH : HRel F w μ H nx) (hE : ERel w (Own F H μ) μ E a)
    (ho : o.op = .call { callee := .builtin .append, args := #[x, y], argTypes := #[t, t] }) (hL : T t = some ⟨.sl e, sz, by_, z⟩) (hF : T e = some L) (h0 : L.size ≠ 0)
    (hx : rd E x = .cv (.one (.osl b L.size 0 0 n true))) (hb : H b = some (.rows e L.size n' cell)) (hy : rd E y = .cv (.one r)) (hr : rowsOf H r = some (L.size, m, cellr, pr)) (hnx : need E x) (hny : need E y) (hp : pr)
    (hbytes : (n + m) * L.bytes ≤ 140737488355328) (hmax : n + m ≤ maxLen) (hnn : n ≤ n') :
    Does P F w H μ nx a o (.cv (.one (.osl nx L.size 0 0 (n + m) true))) (updH H [(b, none), (nx, some (.rows e L.size (n + m) fun i j => bif Nat.blt i n then cell i j else cellr (i - n) j))]) (nx + 1) := by
  have hu := under_sl (hT t _ hL)
  obtain ⟨i, d, hi, hsz, hby, ⟨zv, hz, hzc⟩, _, _⟩ := lay_info (hT e L hF)
  have hzs : zv.cells.size = L.size := by rw [← Array.length_toList, hzc, hZ e L hF]
  have hR := rows_sound hH (rd_one hE hy hny) hr hp
  have h63 : n + m ≤ 9223372036854775807 := by simp only [maxLen] at hmax; omega
  -- behind the giving up of the old name
  obtain ⟨r1, r2⟩ := step_remove (w := w) hH b
  have fresh : ∀ (base : Option Addr) (cap : Nat) (olds : List Value), olds.length = n * L.size → (∀ i, i < n → ∀ j, j < L.size → ∃ u, olds[i * L.size + j]? = some u ∧ IRel w (Own F H μ) (cell i j) u) → ∀ (news : List Value), news.length = m * L.size →
      (∀ i, i < m → ∀ j, j < L.size → ∃ u, news[i * L.size + j]? = some u ∧ IRel w (Own F H μ) (cellr i j) u) →
      ∀ w', (execOp a.eval o).run P w = .ok (.value (.slice (some ⟨w.heap.size, 0, none⟩) (n + m) (grownCap w (n + m) cap e))) w' →
      w' = w.drew.alloc (.cells (olds.toArray ++ news.toArray ++ Builtin.zeroCells zv.cells (grownCap w (n + m) cap e - (n + m))) e) →
      Does P F w H μ nx a o (.cv (.one (.osl nx L.size 0 0 (n + m) true))) (updH H [(b, none), (nx, some (.rows e L.size (n + m) fun i j => bif Nat.blt i n then cell i j else cellr (i - n) j))]) (nx + 1) := by
    intro base cap olds ho1 ho2 news hn1 hn2 w' hrun hw'
    obtain ⟨μ', q1, q2, q3⟩ := fresh_rows (w := w) (w' := w') (e := e) (s := L.size) (n := n) (m := m) (cap := grownCap w (n + m) cap e) (olds := olds) (news := news) (rest := (Builtin.zeroCells zv.cells (grownCap w (n + m) cap e - (n + m))).toList) (c1 := cell) (c2 := cellr)
      r2 (by omega) (by rw [hw']; rfl) (by rw [hw']; rfl) (by rw [hw']; rfl) (by rw [hw']; show w.heap.push _ = _; congr 2; apply Array.toList_inj.1; simp) (grownCap_ge w (n + m) cap e) (grownCap_le_maxLen w (n + m) cap e hmax) (by rw [Array.length_toList, size_zeroCells, hzs]) ho1 hn1
      (fun i hi j hj => by obtain ⟨u, p1, p2⟩ := ho2 i hi j hj; exact ⟨u, p1, p2.mono r1⟩) (fun i hi j hj => by obtain ⟨u, p1, p2⟩ := hn2 i hi j hj; exact ⟨u, p1, p2.mono r1⟩) (by rw [hw']; exact Nat.le_succ _)
    exact ⟨_, w', μ', .inl hrun, r1.trans q1, q2, q3⟩
  rcases rd_one hE hx hnx with ⟨hn0, hem⟩ | ⟨g, cap, hg, hv, c1, c2, c3⟩
  · -- a slice of no capacity
    subst hn0
    obtain ⟨a0, hv⟩ := hem
    rcases hR with ⟨hm0, a', c', hyv⟩ | ⟨b', off, c', hyv, news, hnl, hncell, hnrel, hn1⟩
    · subst hm0
      obtain ⟨q1, q2⟩ := step_absent (w := w) r2 (ty := e) (e := L.size) (cell := fun i j => bif Nat.blt i 0 then cell i j else cellr (i - 0) j)
      exact ⟨_, _, μ, .inl (exec_append ho (by rw [hv]; exact run_append_zero (hT e L hF) hu hyv (Nat.le_refl _) (fun _ => rfl))), r1.trans q1, q2, .inl ⟨rfl, _, rfl⟩⟩
    · rcases Nat.eq_zero_or_pos m with hm0 | hm0
      · subst hm0
        obtain ⟨q1, q2⟩ := step_absent (w := w) r2 (ty := e) (e := L.size) (cell := fun i j => bif Nat.blt i 0 then cell i j else cellr (i - 0) j)
        exact ⟨_, _, μ, .inl (exec_append ho (by rw [hv]; exact run_append_zero (hT e L hF) hu hyv (Nat.le_refl _) (fun _ => rfl))), r1.trans q1, q2, .inl ⟨rfl, _, rfl⟩⟩
      · cases a0 with
        | none =>
          have hrun := run_append_nil (P := P) w t o.type e i zv hu hi hz ⟨b', off, none⟩ m c' news (by rw [hnl, hsz]) (fun j u hu' => by rw [Addr.add_lit]; exact hncell j u hu') hm0 (by omega) (by rw [hby]; exact sub_bytes (n := 0) hbytes)
          have hx1 := exec_append (P := P) ho (by rw [hv, hyv]; exact hrun)
          refine fresh none 0 [] (by simp) (fun i hi => by omega) news hnl hnrel _ (by simpa using hx1) ?_
          simp
        | some a0 =>
          have hrun := run_append_grow (P := P) w t o.type e i zv hu hi hz a0 0 0 [] (by simp) (fun j u hu' => by simp at hu') ⟨b', off, none⟩ m c' news (by rw [hnl, hsz]) (fun j u hu' => by rw [Addr.add_lit]; exact hncell j u hu')
            (by omega) (by omega) (by rw [hby]; exact growslice_fits (by omega) hbytes)
          have hx1 := exec_append (P := P) ho (by rw [hv, hyv]; exact hrun)
          exact fresh (some a0) 0 [] (by simp) (fun i hi => by omega) news hnl hnrel _ hx1 rfl
  · obtain ⟨_, _, cur, ty, hcur, hcs⟩ := c3 rfl
    rcases (hH.blk b _ hb).2 with ⟨hm', _⟩ | ⟨g', cur', hm', hw, hsz', hcell⟩
    · rw [hg] at hm'; cases hm'
    obtain rfl : g' = g := by rw [hg] at hm'; exact (Option.some.inj hm').symm
    rw [hw] at hcur
    simp only [Option.some.injEq, Obj.cells.injEq] at hcur
    obtain ⟨rfl, rfl, _⟩ := hcur
    have hv' : a.eval x = .slice (some ⟨g', 0, none⟩) n cap := by rw [hv]; simp
    have hnsz : n * L.size ≤ cur'.size := Nat.le_trans (Nat.mul_le_mul_right _ hnn) hsz'
    obtain ⟨olds, ho1, ho2, ho3, _⟩ := rowsAt_of (w := w) (O := Own F H μ) (b := g') (o := 0) (e := L.size) (m := n) (cell := cell) fun i hi j hj => by
      obtain ⟨u, hu1, hu2⟩ := hcell i (by omega) j hj
      refine ⟨u, ?_, hu2⟩
      simp only [World.cell?, hw]
      simpa using hu1
    -- in place: what is there is told of otherwise, then the name is another one
    have inplace : ∀ (w' : World) (cur2 : Array Value), w' = w.setRow g' cur2 → cur2.size = cur'.size → (n + m) * L.size ≤ cur'.size →
        (Ext F w (Own F H μ) μ w' (Own F H μ) μ → ∀ i, i < n + m → ∀ j, j < L.size → ∃ u, cur2[i * L.size + j]? = some u ∧ IRel w' (Own F H μ) (bif Nat.blt i n then cell i j else cellr (i - n) j) u) →
        (execOp a.eval o).run P w = .ok (.value (.slice (some ⟨g', 0, none⟩) (n + m) cap)) w' → n + m ≤ cap →
        Does P F w H μ nx a o (.cv (.one (.osl nx L.size 0 0 (n + m) true))) (updH H [(b, none), (nx, some (.rows e L.size (n + m) fun i j => bif Nat.blt i n then cell i j else cellr (i - n) j))]) (nx + 1) := by
      intro w' cur2 hw' hs2 hfit hrel hrun hcap
      subst hw'
      have hnew := setRow_heap w g' cur' cur2 e _ hw
      obtain ⟨s1, s2⟩ := step_write (nx := nx) hH hb hg hw hs2 (B := .rows e L.size (n + m) fun i j => bif Nat.blt i n then cell i j else cellr (i - n) j) fun hext => .inr ⟨g', cur2, hg, hnew, by rw [hs2]; exact hfit, hrel hext⟩
      have s2' : HRel F (w.setRow g' cur2) μ (updH H [(b, some (.rows e L.size (n + m) fun i j => bif Nat.blt i n then cell i j else cellr (i - n) j))]) nx :=
        ⟨fun k B hk => ⟨by
            rw [updH_one] at hk
            split at hk
            · rename_i h; subst h; exact (hH.blk _ _ hb).1
            · exact (hH.blk k B hk).1, (s2.blk k B hk).2⟩, s2.inj, fun k m' hm' => ⟨(hH.lt k m' hm').1, (s2.lt k m' hm').2⟩, s2.dis, s2.frn⟩
      obtain ⟨μ', t1, t2, t3⟩ := step_rename s2' (b := b) (B := .rows e L.size (n + m) fun i j => bif Nat.blt i n then cell i j else cellr (i - n) j) (by rw [updH_one, if_pos rfl])
      rw [show updH (updH H [(b, some (.rows e L.size (n + m) fun i j => bif Nat.blt i n then cell i j else cellr (i - n) j))]) [(b, none), (nx, some (.rows e L.size (n + m) fun i j => bif Nat.blt i n then cell i j else cellr (i - n) j))] = updH H [(b, none), (nx, some (.rows e L.size (n + m) fun i j => bif Nat.blt i n then cell i j else cellr (i - n) j))] from updH_over _ _ _ _ _] at t1 t2
      exact ⟨_, _, μ', .inl hrun, s1.trans t1, t2, .inr ⟨g', cap, t3.trans hg, by simp, hcap, c2, fun _ => ⟨rfl, rfl, cur2, e, hnew, by rw [hs2, hcs]⟩⟩⟩
    have zero_case : m = 0 → ∀ a' c', a.eval y = .slice a' 0 c' → Does P F w H μ nx a o (.cv (.one (.osl nx L.size 0 0 (n + m) true))) (updH H [(b, none), (nx, some (.rows e L.size (n + m) fun i j => bif Nat.blt i n then cell i j else cellr (i - n) j))]) (nx + 1) := by
      intro hm0 a' c' hyv
      subst hm0
      have hrun := exec_append (P := P) (w := w) ho (by rw [hv']; exact run_append_zero (base := some ⟨g', 0, none⟩) (hT e L hF) hu hyv c1 (fun h => by cases h))
      refine inplace w cur' (setRow_self w g' cur' e _ hw).symm rfl (by simpa using hnsz) (fun hext i hi j hj => ?_) (by simpa using hrun) (by simpa using c1)
      have hi' : i < n := by simpa using hi
      obtain ⟨u, hu1, hu2⟩ := hcell i (by omega) j hj
      refine ⟨u, hu1, ?_⟩
      have : Nat.blt i n = true := Nat.ble_eq_true_of_le hi'
      rw [this]
      exact hu2
    rcases hR with ⟨hm0, a', c', hyv⟩ | ⟨b', off, c', hyv, news, hnl, hncell, hnrel, hn1⟩
    · exact zero_case hm0 a' c' hyv
    · rcases Nat.eq_zero_or_pos m with hm0 | hm0
      · exact zero_case hm0 _ c' (by rw [hyv, hm0])
      · by_cases hroom : n + m ≤ cap
        · have hfit : (n + m) * L.size ≤ cur'.size := by rw [hcs]; exact Nat.mul_le_mul_right _ hroom
          have hsum : n * L.size + news.length ≤ cur'.size := by rw [hnl, ← Nat.add_mul]; exact hfit
          have hrun := run_append_room (P := P) w t o.type e i hu hi g' n cap cur' hw ⟨b', off, none⟩ m c' news (by rw [hnl, hsz]) (fun j u hu' => by rw [Addr.add_lit]; exact hncell j u hu') hn1 hroom (by rw [hsz]; exact hsum)
          rw [hsz] at hrun
          have hx1 := exec_append (P := P) ho (by rw [hv', hyv]; exact hrun)
          refine inplace _ (cur'.toList.take (n * L.size) ++ news ++ cur'.toList.drop (n * L.size + news.length)).toArray rfl ?_ hfit (fun hext i hi j hj => ?_) hx1 hroom
          · simp; omega
          · have htl : (cur'.toList.take (n * L.size)).length = n * L.size := by simp; omega
            obtain ⟨u, hu1, hu2⟩ := cells_append (w := w) (O := Own F H μ) (rest := cur'.toList.drop (n * L.size + news.length)) htl hnl (c1 := cell) (c2 := cellr) (fun i hi j hj => by
              obtain ⟨u, p1, p2⟩ := hcell i (by omega) j hj
              refine ⟨u, ?_, p2⟩
              have : i * L.size + j < n * L.size := by
                calc i * L.size + j < i * L.size + L.size := by omega
                  _ = (i + 1) * L.size := by rw [Nat.succ_mul]
                  _ ≤ n * L.size := Nat.mul_le_mul_right _ hi
              rw [List.getElem?_take, if_pos this]
              simpa using p1) hnrel i hi j hj
            exact ⟨u, by simpa using hu1, hu2.mono hext⟩
        · have hrun := run_append_grow (P := P) w t o.type e i zv hu hi hz ⟨g', 0, none⟩ n cap olds (by rw [ho1, hsz]) (fun j u hu' => by rw [Addr.add_lit]; exact ho2 j u hu') ⟨b', off, none⟩ m c' news (by rw [hnl, hsz]) (fun j u hu' => by rw [Addr.add_lit]; exact hncell j u hu')
            (by omega) (by omega) (by rw [hby]; exact growslice_fits (by omega) hbytes)
          have hx1 := exec_append (P := P) ho (by rw [hv', hyv]; exact hrun)
          exact fresh none cap olds ho1 ho3 news hnl hnrel _ hx1 rfl
end
end Go.Proofs.YtmpddomgiplnmaaDoor.Abs

/-
  MAPS WHOSE KEYS ARE INTEGERS (3): made, and written.
-/
namespace Go.Proofs.YtmpddomgiplnmaaDoor.Abs
open Go

section
variable {P : Program} {T : Lays} {F : Nat → Prop} {w : World} {μ : Nat → Option Nat} {H : Nat → Option ABlk} {nx : Nat} {E : Nat → SV} {a : Act}

theorem does_makeMap {o : Oper} {t : TypeId} {ka va : Bool} {kks : List IntKind} {vn : Nat} (hH : HRel F w μ H nx) (ho : o.op = .makeMap t none) :
    Does P F w H μ nx a o (.cv (.one (.omp nx))) (updH H [(nx, some (.mp ka kks va vn (fun _ => false) fun _ _ => ivDef))]) (nx + 1) := by
  obtain ⟨μ', h1, h2, h3⟩ := step_alloc (w := w) (w' := w.alloc (.map #[] 0)) (B := .mp ka kks va vn (fun _ => false) fun _ _ => ivDef) hH rfl rfl rfl rfl (fun c t fz h => by cases h) fun O' μ' hext hm =>
    ⟨w.heap.size, #[], 0, hm, heap_alloc_new w _, ⟨by simp, fun e he => by simp at he, by simp⟩, fun e he => by simp at he, fun ks hk => by cases hk⟩
  exact ⟨.map (some w.heap.size), _, μ', .inl (by simp [execOp, ho, Instr.makeMap]), h1, h2, ⟨w.heap.size, h3, rfl⟩⟩

/-- The world with another map there. -/
def setMap (w : World) (b : Nat) (es : Array MapEntry) (c : Nat) : World := { w with heap := w.heap.setIfInBounds b (.map es c) }

theorem run_setObj_map {b clock : Nat} {es : Array MapEntry} (h : w.heap[b]? = some (.map es clock)) (es' : Array MapEntry) (c : Nat) : (setObj b (.map es' c)).run P w = .ok () (setMap w b es' c) := by
  simp [setObj, Sem.run, h, setMap]

theorem shape_keep {b clock : Nat} {es : Array MapEntry} (h : w.heap[b]? = some (.map es clock)) : ∀ (c : Array Value) t fz, w.heap[b]? = some (.cells c t fz) → False := by
  intro c t fz hc
  rw [h] at hc
  cases hc

theorem run_mapUpdate {t k e : TypeId} {ka va : Bool} {kks : List IntKind} {ks : List Int} {R : IV → Value → Prop} {vn : Nat} {dom : List Int → Bool} {val : List Int → Nat → IV} {b clock : Nat} {es : Array MapEntry} (hu : P.underlying t = some (.map k e)) (hKF : KF P k ka kks) (hl : ks.length = kks.length)
    (hb : w.heap[b]? = some (.map es clock)) (hR : MRel R ka kks va vn dom val es.toList) (hok : MapOk es.toList clock) {cs : List Value} (hv : cs.length = vn) {f : Nat → IV} (hf : ∀ j u, cs[j]? = some u → R (f j) u) :
    ∃ es' c, (Instr.mapUpdate t (.map (some b)) (keyV ka kks ks) (aggV va cs)).run P w = .ok () (setMap w b es' c) ∧ MRel R ka kks va vn (fun k' => eqI ks k' || dom k') (fun k' => bif eqI ks k' then f else val k') es'.toList ∧ MapOk es'.toList c := by
  have hchk := run_checkKey (w := w) hKF hl false 9998
  obtain ⟨r, hr, hfd⟩ := run_findKey (w := w) hKF hl es.toList hR.keys
  cases r with
  | none =>
    refine ⟨es.push { key := keyV ka kks ks, val := aggV va cs, born := clock }, clock + 1, ?_, ?_⟩
    · simp only [Instr.mapUpdate, Sem.run_bind, run_underlying hu, Result.andThen_ok, run_getObj_map hb]
      rw [show (10000 : Nat) = 9998 + 2 from rfl, hchk]
      simp [Result.andThen_ok, hr, run_setObj_map hb]
    · rw [Array.toList_push]
      have hm := hR.put_none hKF hl hfd hv hf (e := { key := keyV ka kks ks, val := aggV va cs, born := clock }) rfl rfl
      refine ⟨hm, hm.1, fun e he => ?_, List.pairwise_append.2 ⟨hok.dist, by simp, fun x hx y hy => ?_⟩⟩
      · rcases List.mem_append.1 he with he | he
        · exact Nat.lt_succ_of_lt (hok.born e he)
        · rw [List.mem_singleton.1 he]
          exact Nat.lt_succ_self _
      · rw [List.mem_singleton.1 hy]
        exact Nat.ne_of_lt (hok.born x hx)
  | some iv =>
    obtain ⟨i, v0⟩ := iv
    obtain ⟨_, e0, he0, hek, _⟩ := hfd
    simp only [Nat.sub_zero] at he0
    have hlt : i < es.size := by simpa using (List.getElem?_eq_some_iff.1 he0).1
    have hei : es[i]? = some e0 := by simpa using he0
    have hsb := sameBits_key hKF hl 9999
    have hks : (Instr.keyThatStays (((es[i]?).map (·.key)).getD (keyV ka kks ks)) (keyV ka kks ks)).run P w = .ok (keyV ka kks ks) w := by
      rw [hei]
      simp only [Option.map_some, Option.getD_some, hek, Instr.keyThatStays]
      rw [show (10000 : Nat) = 9999 + 1 from rfl, hsb]
      simp
    refine ⟨es.modify i fun e => { e with key := keyV ka kks ks, val := aggV va cs }, clock, ?_, ?_⟩
    · simp only [Instr.mapUpdate, Sem.run_bind, run_underlying hu, Result.andThen_ok, run_getObj_map hb]
      rw [show (10000 : Nat) = 9998 + 2 from rfl, hchk]
      simp only [Result.andThen_ok, hr, Sem.run_bind, hks, run_setObj_map hb]
    · have hm : (es.modify i fun e => { e with key := keyV ka kks ks, val := aggV va cs }).toList = es.toList.set i { e0 with key := keyV ka kks ks, val := aggV va cs } := by
        rw [Array.toList_modify]
        refine List.ext_getElem? fun n => ?_
        rw [List.getElem?_modify, List.getElem?_set]
        by_cases hn : i = n
        · subst hn
          have : es[i] = e0 := (Array.getElem?_eq_some_iff.1 hei).2
          simp [hlt, this]
        · simp [hn]
      rw [hm]
      have hm2 := hR.put_some hKF hl he0 hek hv hf (e := { e0 with key := keyV ka kks ks, val := aggV va cs }) rfl rfl
      have hb2 : (es.toList.set i { e0 with key := keyV ka kks ks, val := aggV va cs }).map (·.born) = es.toList.map (·.born) := by
        refine List.ext_getElem? fun n => ?_
        rw [List.getElem?_map, List.getElem?_map, List.getElem?_set]
        by_cases hn : i = n
        · subst hn
          rw [he0]
          simp [hlt]
        · simp [hn]
      refine ⟨hm2, hm2.1, fun e he => ?_, ?_⟩
      · have h1 : e.born ∈ es.toList.map (·.born) := by rw [← hb2]; exact List.mem_map.2 ⟨e, he, rfl⟩
        obtain ⟨e', he', hee⟩ := List.mem_map.1 h1
        rw [← hee]
        exact hok.born e' he'
      · have h1 := List.pairwise_map.2 hok.dist
        rw [← hb2] at h1
        exact List.pairwise_map.1 h1

theorem does_mapPut0 {o : Oper} {t : TypeId} {m k x : Operand} (hT : LayOk P T) (hM : MoreOk P T) (hH : HRel F w μ H nx) (hE : ERel w (Own F H μ) μ E a) (ho : o.op = .mapUpdate t m k x ∨ o.op = .insert t m k x) {y : SV} {U : List (Nat × Option ABlk)} {vc : Prop}
    (h : mapPut T H E t m k x = some (y, U, vc)) (hv : vc) : Does P F w H μ nx a o y (updH H U) nx := by
  unfold mapPut at h
  split at h
  · rename_i kt e sz by_ z b ka kks ks c hL hm hk hx
    split at h
    · rename_i ka' kks' ka2 kks2 va vn dom val xs hkf hB hxs
      cases hc : (bEq ka ka' && kindsEq kks kks' && (bEq ka ka2 && kindsEq kks kks2) && (bEq (isAggC c) va && lenIs c.cells vn)) with
      | false => rw [hc] at h; simp at h
      | true =>
        rw [hc] at h
        simp only [cond_true, Option.some.injEq, Prod.mk.injEq] at h
        obtain ⟨rfl, rfl, rfl⟩ := h
        simp only [Bool.and_eq_true] at hc
        obtain ⟨⟨⟨c1, c2⟩, c3, c4⟩, c5, c6⟩ := hc
        have c1 := bEq_eq c1; have c2 := kindsEq_eq c2; have c3 := bEq_eq c3; have c4 := kindsEq_eq c4; have c5 := bEq_eq c5; have c6 := lenIs_eq _ _ c6
        subst c1; subst c2; subst c3; subst c4; subst c5
        obtain ⟨q1, q2, q3⟩ := hv
        have hKF := keyForm_sound hT hM.eqs hkf
        have hu : P.underlying t = some (.map kt e) := by
          obtain ⟨i, d, _, _, _, _, hd, hk⟩ := lay_info (hT t _ hL)
          cases d <;> simp [kindOf] at hk
          obtain ⟨rfl, rfl⟩ := hk; exact hd
        obtain ⟨bm, hbm, hmv⟩ := rd_one hE hm q1
        obtain ⟨hkv, hkl⟩ := keyOf_rel hk (rd_sound hE k q2)
        have hcr := rd_cv hE hx q3
        have hcells := CRel.cells hcr
        have hxv : a.eval x = aggV (isAggC c) (a.eval x).cells.toList := by
          cases c with
          | one y => rw [cells_one (ARel.one hcr)]; rfl
          | agg l => obtain ⟨cs, hcs, _⟩ := hcr; rw [hcs]; simp [aggV, isAggC, Value.cells]
        obtain ⟨b2, es, clock, hb2, hw, hok, hR0⟩ := (hH.blk b _ hB).2
        obtain rfl : b2 = bm := by rw [hbm] at hb2; exact (Option.some.inj hb2).symm
        have hR : MRel (IRel w (Own F H μ)) ka kks (isAggC c) vn dom val es.toList := ⟨hok.keys, hR0⟩
        have hlen : (a.eval x).cells.toList.length = vn := by rw [hcells.1]; exact c6
        obtain ⟨es', c', hrun, hR', hok'⟩ := run_mapUpdate (cs := (a.eval x).cells.toList) hu hKF hkl hw hR hok hlen (f := fun j => xs.getD j ivDef) fun j u hj => by
          obtain ⟨u', hu', hr⟩ := toIVs_rel hxs hcells j (List.getElem?_eq_some_iff.1 hj).1
          rw [hj] at hu'
          cases hu'
          exact hr
        have hlt : b2 < w.heap.size := (hH.lt b b2 hbm).2
        have hstep := step_write' (w' := setMap w b2 es' c') (nx := nx) hH hB hbm rfl rfl rfl (by simp [setMap]) (fun k hk => by simp [setMap, Ne.symm hk]) (fun c t fz hc => (shape_keep hw c t fz hc).elim) (fun _ c t fz e => by simp [setMap, hlt] at e)
          (B := .mp ka kks (isAggC c) vn (fun k' => eqI ks k' || dom k') fun k' => bif eqI ks k' then (fun j => xs.getD j ivDef) else val k') fun hext => ⟨b2, es', c', hbm, by simp [setMap, hlt], hok', fun e he => by
            obtain ⟨ks', r1, r2, r3, cs, r4, r5, r6⟩ := hR'.2.1 e he
            exact ⟨ks', r1, r2, r3, cs, r4, r5, fun j u hu => (r6 j u hu).mono hext⟩, hR'.2.2⟩
        refine ⟨Go.undef, _, μ, .inr ⟨?_, rfl⟩, hstep.1, hstep.2, trivial⟩
        rw [← hkv, ← hxv, ← hmv] at hrun
        rcases ho with ho | ho <;> simp [execOp, ho, hrun]
    · cases h
  · cases h

theorem does_mapPut {o : Oper} {t : TypeId} {m k x : Operand} (hT : LayOk P T) (hM : MoreOk P T) (hH : HRel F w μ H nx) (hE : ERel w (Own F H μ) μ E a) (ho : o.op = .mapUpdate t m k x ∨ o.op = .insert t m k x) {y : SV} {U : List (Nat × Option ABlk)} {vc : Prop}
    (h : mapPut T H E t m k x = some (y, U, vc)) (hv : vc) : Does P F w H μ nx a o y (updH H U) (nx + 1) := by
  obtain ⟨v, w', μ', h1, h2, h3, h4⟩ := does_mapPut0 hT hM hH hE ho h hv
  exact ⟨v, w', μ', h1, h2, h3.more (by omega), h4⟩
end
end Go.Proofs.YtmpddomgiplnmaaDoor.Abs
