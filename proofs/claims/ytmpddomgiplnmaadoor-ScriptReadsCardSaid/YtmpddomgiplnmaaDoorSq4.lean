/-
  THE REFERENCE'S WAY OF READING, PLAINLY: numbers, deeds and lines read so are those that the script reads. No program in sight.
-/
import Derived.Test.YtmpddomgiplnmaaDoorSq3
namespace Go.Proofs.YtmpddomgiplnmaaDoor.Abs
open Go Go.Lib

theorem drop_at {s : ByteArray} {i : Nat} (h : i < s.size) : ∃ x : UInt8, (toL s).drop i = x :: (toL s).drop (i + 1) ∧ byteAt s i = x.toNat := by
  have hl : i < (toL s).length := by rw [toL_len]; exact h
  exact ⟨(toL s)[i], List.drop_eq_getElem_cons hl, byteAt_eq s i _ (List.getElem?_eq_getElem hl)⟩
theorem toL_at {s : ByteArray} {i : Nat} {x : UInt8} {l : List UInt8} (h : (toL s).drop i = x :: l) (_ : i < s.size) : toL (s.extract i (i + 1)) = [x] := by
  rw [toL_extract, List.drop_take, h, show i + 1 - i = 1 from by omega]
  rfl
/-! ### Numbers -/
def lr : List UInt8 → Int → Option Int
  | [], n => some n
  | b :: l, n => bif (bif (bif decide ((b.toNat : Int) < 48) then true else decide ((b.toNat : Int) > 57)) then true else decide (n > 1073741824)) then none else lr l (10 * n + ((b.toNat : Int) - 48))
def negL : List UInt8 → Bool
  | b :: _ => (b.toNat : Int) == 45
  | [] => false
def negR (s : ByteArray) : Bool := negL (toL s)
def frR (s : ByteArray) : Nat := bif negR s then 1 else 0
def finR (s : ByteArray) : Option Int → Int
  | none => 2147483648
  | some n => bif sEq (wrF (bif negR s then 0 - n else n)) s then (bif negR s then 0 - n else n) else 2147483648
theorem finR_some (s : ByteArray) (n : Int) : finR s (some n) = bif sEq (wrF (bif negR s then 0 - n else n)) s then (bif negR s then 0 - n else n) else 2147483648 := rfl
def numR (s : ByteArray) : Int := finR s (lr ((toL s).drop (frR s)) 0)
theorem lr_append : ∀ (a b : List UInt8) (n : Int), lr (a ++ b) n = (lr a n).bind (lr b)
  | [], _, _ => rfl
  | x :: a, b, n => by
    rw [List.cons_append, lr, lr]
    cases (bif (bif decide ((x.toNat : Int) < 48) then true else decide ((x.toNat : Int) > 57)) then true else decide (n > 1073741824)) with
    | true => rfl
    | false => exact lr_append a b _
theorem lr_dg (n : Nat) (m : Int) (hm : m ≤ 1073741824) : lr (toL (dg n)) m = some (10 * m + (n % 10 : Nat)) := by
  rw [dg_val, lr, dg_byte, decide_eq_false (by omega), decide_eq_false (by omega), decide_eq_false (by omega), lr]
  show some (10 * m + (((48 + n % 10 : Nat) : Int) - 48)) = _
  congr 1
  omega
theorem lr_digs : ∀ n : Nat, n ≤ 1073741824 → lr (toL (digs n)) 0 = some (n : Int) := by
  intro n
  induction n using Nat.strongRecOn with
  | _ n ih =>
    intro hn
    by_cases h : n < 10
    · have e : digs n = dg n := by rw [digs.eq_1 n, if_pos h]
      rw [e, lr_dg n 0 (by omega)]
      congr 1
      omega
    · have e : digs n = digs (n / 10) ++ dg n := by rw [digs.eq_1 n, if_neg h]
      rw [e, toL_append, lr_append, ih (n / 10) (by omega) (by omega), Option.bind_some, lr_dg n _ (by omega)]
      congr 1
      omega
theorem numR_wrF {n : Int} (h1 : -1073741824 ≤ n) (h2 : n ≤ 1073741824) : numR (wrF n) = n := by
  rcases Int.lt_or_le n 0 with hn | hn
  · have e : toL (wrF n) = 45 :: toL (digs (-n).toNat) := by
      unfold wrF
      rw [decide_eq_true hn, cond_true, toL_append]
      rfl
    have hg : negR (wrF n) = true := by unfold negR; rw [e]; rfl
    unfold numR frR
    rw [hg, e]
    show finR _ (lr (toL (digs (-n).toNat)) 0) = _
    rw [lr_digs _ (by omega)]
    rw [finR_some]
    have e2 : (0 : Int) - ((-n).toNat : Int) = n := by omega
    rw [hg, cond_true, e2, sEq_iff.2 rfl]
    rfl
  · have e : wrF n = digs n.toNat := by
      unfold wrF
      rw [decide_eq_false (by omega), cond_false]
    have hg : negR (wrF n) = false := by
      unfold negR
      rw [e]
      cases hd : toL (digs n.toNat) with
      | nil => exact absurd hd (digs_ne _)
      | cons x l =>
        have := digs_mem n.toNat x (by rw [hd]; simp)
        show ((x.toNat : Int) == 45) = false
        simp
        omega
    unfold numR frR
    rw [hg, e]
    show finR _ (lr (toL (digs n.toNat)) 0) = _
    rw [lr_digs _ (by omega)]
    rw [finR_some]
    have e2 : (n.toNat : Int) = n := by omega
    rw [e] at hg
    rw [hg, cond_false, e2, ← e, sEq_iff.2 rfl]
    rfl
theorem numR_back {s : ByteArray} (h : numR s ≠ 2147483648) : wrF (numR s) = s := by
  unfold numR at h ⊢
  cases hl : lr ((toL s).drop (frR s)) 0 with
  | none => rw [hl] at h; exact absurd rfl h
  | some n =>
    rw [hl] at h
    rw [finR_some] at h ⊢
    cases hs : sEq (wrF (bif negR s then 0 - n else n)) s with
    | false => rw [hs] at h; exact absurd rfl h
    | true => rw [cond_true]; exact sEq_iff.1 hs
/-! ### Lines -/
theorem splitL_join (c : UInt8) : ∀ l : List UInt8, ∃ w ws, splitL c l = w :: ws ∧ l = w ++ ws.flatMap fun x => c :: x
  | [] => ⟨[], [], rfl, rfl⟩
  | b :: l => by
    obtain ⟨w, ws, h1, h2⟩ := splitL_join c l
    unfold splitL
    by_cases hb : b = c
    · rw [if_pos hb, h1]
      refine ⟨[], w :: ws, rfl, ?_⟩
      rw [List.flatMap_cons, hb]
      exact congrArg (c :: ·) h2
    · rw [if_neg hb, h1]
      exact ⟨b :: w, ws, rfl, congrArg (b :: ·) h2⟩
theorem parts_row (s : ByteArray) : toL s = toL ((splitS s 32).at_ 0) ++ (List.range ((splitS s 32).n - 1)).flatMap fun i => 32 :: toL ((splitS s 32).at_ (1 + i)) := by
  obtain ⟨w, ws, h1, h2⟩ := splitL_join 32 (toL s)
  have hn : (splitS s 32).n = ws.length + 1 := by rw [split_n, h1]; rfl
  have h0 : w = toL ((splitS s 32).at_ 0) := by
    have := split_at s 32 0 (by omega)
    rw [h1] at this
    exact Option.some.inj this
  have hw : ws = (List.range ((splitS s 32).n - 1)).map fun i => toL ((splitS s 32).at_ (1 + i)) := by
    refine List.ext_getElem? fun i => ?_
    rw [List.getElem?_map]
    rcases Nat.lt_or_ge i ws.length with hi | hi
    · have := split_at s 32 (1 + i) (by omega)
      rw [h1, Nat.add_comm 1 i, List.getElem?_cons_succ] at this
      rw [this, List.getElem?_range (by omega), Nat.add_comm i 1]
      rfl
    · rw [List.getElem?_eq_none hi, List.getElem?_eq_none (by rw [List.length_range]; omega)]
      rfl
  have e : toL s = w ++ ws.flatMap fun x => 32 :: x := h2
  rw [h0, hw, List.flatMap_map] at e
  exact e
def deedR (s : ByteArray) : Dd := bif kindS s == 0 then dd0 else ⟨kindS s, ⟨(((splitS s 32).n : Int) - 1).toNat, fun i => numR ((splitS s 32).at_ (1 + i))⟩⟩
def bgRp (s : ByteArray) : Pl := ⟨(bif bgBad s then 0 else numR ((splitS s 32).at_ 1)), (bif bgBad s then 0 else numR ((splitS s 32).at_ 2)), ⟨0, fun _ => ⟨0, ⟨0, fun _ => 0⟩⟩⟩⟩
theorem kind_ne {d : Dd} (h : RightD d) (s : ByteArray) (e : d.kind = kindS s) : (kindS s == 0) = false := by
  have := h.k1
  simp
  omega
theorem deedR_row {s : ByteArray} (h : rightB (deedR s) = true) : toL s = rowL (wordM (deedR s).kind) (deedR s).nums := by
  have hR := rightB_iff.1 h
  have hk : (kindS s == 0) = false := by
    cases hk : kindS s == 0 with
    | false => rfl
    | true =>
      unfold deedR at hR
      rw [hk] at hR
      exact absurd hR.k1 (show ¬ (1 : Int) ≤ 0 by decide)
  have e : deedR s = ⟨kindS s, ⟨(((splitS s 32).n : Int) - 1).toNat, fun i => numR ((splitS s 32).at_ (1 + i))⟩⟩ := by
    unfold deedR
    rw [hk]
    rfl
  rw [e] at hR ⊢
  obtain ⟨_, _, w3⟩ := word_ok (isK_of hR)
  have hK := (kndOf_isK (w := (splitS s 32).at_ 0) (fun e => by
    have e : kindS s = 0 := e
    rw [e] at hk
    cases hk)).2
  have w3 : wordM (kindS s) = wordK (kindS s) := w3
  show toL s = toL (wordM (kindS s)) ++ (List.range (((splitS s 32).n : Int) - 1).toNat).flatMap fun i => 32 :: toL (wrF (numR ((splitS s 32).at_ (1 + i))))
  rw [w3, show wordK (kindS s) = (splitS s 32).at_ 0 from hK]
  have hz : (((splitS s 32).n : Int) - 1).toNat = (splitS s 32).n - 1 := by omega
  rw [hz]
  refine (parts_row s).trans ?_
  congr 1
  have : ∀ l : List Nat, (∀ i ∈ l, i < (splitS s 32).n - 1) → (l.flatMap fun i => 32 :: toL ((splitS s 32).at_ (1 + i))) = l.flatMap fun i => 32 :: toL (wrF (numR ((splitS s 32).at_ (1 + i)))) := by
    intro l
    induction l with
    | nil => intro _; rfl
    | cons x l ih =>
      intro hl
      have hb := hR.big x (by show x < (((splitS s 32).n : Int) - 1).toNat; rw [hz]; exact hl x (by simp))
      have hb : -1073741824 ≤ numR ((splitS s 32).at_ (1 + x)) ∧ numR ((splitS s 32).at_ (1 + x)) ≤ 1073741824 := hb
      rw [List.flatMap_cons, List.flatMap_cons, ih fun i hi => hl i (by simp [hi]), numR_back (by omega)]
  exact this _ fun i hi => List.mem_range.1 hi
theorem deed_eq (s : ByteArray) : deedB s = rightB (deedR s) := by
  rw [Bool.eq_iff_iff]
  refine ⟨fun h => ?_, fun h => (deed_back (rightB_iff.1 h) (deedR_row h)).1⟩
  obtain ⟨h1, h2⟩ := deed_row h
  have hR := rightB_iff.1 h1
  have hk : (kindS s == 0) = false := by
    unfold deedB at h
    cases hk : kindS s == 0 with
    | false => rfl
    | true => rw [hk] at h; cases h
  have eD : deedD s = ⟨kindS s, numsF (tailS (splitS s 32))⟩ := by
    unfold deedD
    rw [hk]
    rfl
  have eR : deedR s = ⟨kindS s, ⟨(((splitS s 32).n : Int) - 1).toNat, fun i => numR ((splitS s 32).at_ (1 + i))⟩⟩ := by
    unfold deedR
    rw [hk]
    rfl
  rw [eD] at hR h2
  have hsp := rowL_split _ (numsF (tailS (splitS s 32))) (word_ok (isK_of hR)).1
  rw [h2] at hsp
  have hv : ∀ i, i < (((splitS s 32).n : Int) - 1).toNat → numR ((splitS s 32).at_ (1 + i)) = (numsF (tailS (splitS s 32))).at_ i := fun i hi => by
    have := split_at s 32 (1 + i) (by omega)
    rw [hsp, Nat.add_comm 1 i, List.getElem?_cons_succ, List.getElem?_map, List.getElem?_range (show i < (numsF (tailS (splitS s 32))).n from hi)] at this
    have := Option.some.inj this
    rw [Nat.add_comm 1 i, ← toL_inj this]
    have := hR.big i hi
    exact numR_wrF this.1 this.2
  rw [eR]
  refine rightB_iff.2 ⟨hR.k1, hR.k7, hR.n, fun i hi => ?_⟩
  show _ ≤ numR ((splitS s 32).at_ (1 + i)) ∧ numR ((splitS s 32).at_ (1 + i)) ≤ _
  rw [hv i hi]
  exact hR.big i hi
theorem deed_like {s : ByteArray} (h : deedB s = true) : LikeD (deedD s) (deedR s) := by
  rw [deed_eq] at h
  have := (deed_back (rightB_iff.1 h) (deedR_row h)).2
  exact ⟨this.kind.symm, this.n.symm, fun i hi => (this.v i (by rw [this.n]; exact hi)).symm⟩
theorem begin_eq (s : ByteArray) : bgOkS s = beginsB (bgRp s) := by
  rw [Bool.eq_iff_iff]
  refine ⟨fun h => ?_, fun h => ?_⟩
  · obtain ⟨h1, h2, h3⟩ := begin_row h
    have hB := beginsB_iff.1 h2
    have hsp : splitL 32 (toL s) = [toL storeW, toL (wrF (bgP s).procs), toL (wrF (bgP s).nodes)] := by
      rw [← h3, rowL_split _ _ (by decide)]
      rfl
    have hn : (splitS s 32).n = 3 := by rw [split_n, hsp]; rfl
    have e1 : (splitS s 32).at_ 1 = wrF (bgP s).procs := by
      have := split_at s 32 1 (by omega)
      rw [hsp] at this
      exact toL_inj (Option.some.inj this).symm
    have e2 : (splitS s 32).at_ 2 = wrF (bgP s).nodes := by
      have := split_at s 32 2 (by omega)
      rw [hsp] at this
      exact toL_inj (Option.some.inj this).symm
    refine beginsB_iff.2 ?_
    unfold bgRp
    rw [h1, cond_false, cond_false, e1, e2, numR_wrF (by omega) (by omega), numR_wrF (by omega) (by omega)]
    exact hB
  · have hB := beginsB_iff.1 h
    cases hb : bgBad s with
    | true =>
      unfold bgRp at hB
      rw [hb] at hB
      exact absurd hB.1.1 (show ¬ (1 : Int) ≤ 0 by decide)
    | false =>
      unfold bgRp at hB
      rw [hb, cond_false, cond_false] at hB
      unfold bgBad at hb
      obtain ⟨b1, b2⟩ := bor_f hb
      have hn : (splitS s 32).n = 3 := by
        have : ((splitS s 32).n : Int) = 3 := by simpa using b1
        omega
      have h0 := sEq_iff.1 (bnot_f b2)
      obtain ⟨p1, p2⟩ := hB
      have p1 : 1 ≤ numR ((splitS s 32).at_ 1) ∧ numR ((splitS s 32).at_ 1) ≤ 8 := p1
      have p2 : 1 ≤ numR ((splitS s 32).at_ 2) ∧ numR ((splitS s 32).at_ 2) ≤ 512 := p2
      have hr := parts_row s
      rw [hn, h0] at hr
      refine (begin_back p1 p2 (s := s) (hr.trans ?_)).1
      show toL storeW ++ ((32 :: toL ((splitS s 32).at_ 1)) ++ ((32 :: toL ((splitS s 32).at_ 2)) ++ [])) = toL storeW ++ ((32 :: toL (wrF (numR ((splitS s 32).at_ 1)))) ++ ((32 :: toL (wrF (numR ((splitS s 32).at_ 2)))) ++ []))
      rw [numR_back (by omega), numR_back (by omega)]
theorem begin_same {s : ByteArray} (h : bgOkS s = true) : bgBad s = false ∧ (bgP s).procs = (bgRp s).procs ∧ (bgP s).nodes = (bgRp s).nodes := by
  obtain ⟨h1, h2, h3⟩ := begin_row h
  have hB := beginsB_iff.1 h2
  have hsp : splitL 32 (toL s) = [toL storeW, toL (wrF (bgP s).procs), toL (wrF (bgP s).nodes)] := by
    rw [← h3, rowL_split _ _ (by decide)]
    rfl
  have hn : (splitS s 32).n = 3 := by rw [split_n, hsp]; rfl
  have e1 : (splitS s 32).at_ 1 = wrF (bgP s).procs := by
    have := split_at s 32 1 (by omega)
    rw [hsp] at this
    exact toL_inj (Option.some.inj this).symm
  have e2 : (splitS s 32).at_ 2 = wrF (bgP s).nodes := by
    have := split_at s 32 2 (by omega)
    rw [hsp] at this
    exact toL_inj (Option.some.inj this).symm
  refine ⟨h1, ?_, ?_⟩
  · show _ = bif bgBad s then 0 else numR ((splitS s 32).at_ 1)
    rw [h1, cond_false, e1, numR_wrF (by omega) (by omega)]
  · show _ = bif bgBad s then 0 else numR ((splitS s 32).at_ 2)
    rw [h1, cond_false, e2, numR_wrF (by omega) (by omega)]
/-! ### The whole text -/
def refP (s : ByteArray) (i : Nat) : Pl := ⟨(bgRp (lrow s 0)).procs, (bgRp (lrow s 0)).nodes, ⟨i, fun q => deedR (lrow s (q + 1))⟩⟩
def refF (s : ByteArray) : Pl × Int := bif (parseF s).2.1 == 0 then (refP s (parseF s).1.deeds.n, 0) else (pl0, (parseF s).2.2)
theorem go_250 (s : ByteArray) : ∀ f i, (parseGo s f i).2.1 ≠ 0 → (parseGo s f i).2.1 = 250 ∧ 1 ≤ (parseGo s f i).2.2
  | 0, _, h => absurd rfl h
  | f + 1, i, h => by
    rw [parseGo] at h ⊢
    cases h1 : (!sEq (lrest s (i + 1)) ⟨#[]⟩) with
    | false => rw [h1] at h; exact absurd rfl h
    | true =>
      rw [h1, cond_true] at h
      rw [cond_true]
      cases h2 : badL s i with
      | true => exact ⟨rfl, by show (1 : Int) ≤ (i : Int) + 2; omega⟩
      | false =>
        rw [h2, cond_false] at h
        rw [cond_false]
        exact go_250 s f (i + 1) h
theorem parse_250 {s : ByteArray} (h : (parseF s).2.1 ≠ 0) : (parseF s).2.1 = 250 ∧ 1 ≤ (parseF s).2.2 := by
  unfold parseF at h ⊢
  cases h1 : (bif !lend s 0 then true else !bgOkS (lrow s 0)) with
  | true => exact ⟨rfl, show (1 : Int) ≤ 1 by decide⟩
  | false =>
    rw [h1, cond_false] at h
    rw [cond_false]
    exact go_250 s _ 0 h
theorem refF_of {s : ByteArray} {no : Int} (h : parseF s = (pl0, 250, no)) : refF s = (pl0, no) := by
  unfold refF
  rw [h]
  rfl
theorem refF_ok {s : ByteArray} {m : Nat} (h : parseF s = (planI s m, 0, 0)) : refF s = (refP s m, 0) := by
  unfold refF
  rw [h]
  rfl
theorem parse_like {s : ByteArray} (h : (parseF s).2.1 = 0) : (parseF s).2.2 = 0 ∧ (refF s).2 = 0 ∧ LikeP (parseF s).1 (refF s).1 := by
  obtain ⟨⟨h1, h2⟩, m, h3, h4, h5⟩ := parse_ok h
  obtain ⟨b1, b2, b3⟩ := begin_same h2
  rw [refF_ok h4, h4]
  refine ⟨rfl, rfl, ?_, ?_, rfl, fun i hi => ?_⟩
  · show (bif bgBad (lrow s 0) then 0 else (bgP (lrow s 0)).procs) = _
    rw [b1]
    exact b2
  · show (bif bgBad (lrow s 0) then 0 else (bgP (lrow s 0)).nodes) = _
    rw [b1]
    exact b3
  · have := h5 i hi
    unfold badL at this
    exact deed_like (bnot_f (bor_f (bor_f this).1).2)
/-- Where the reference stands: behind i bytes, in line m (from 0), with t of it. -/
structure PInv (s : ByteArray) (m i : Nat) (t : ByteArray) : Prop where
  le : i ≤ s.size
  rest : toL (lrest s m) = toL t ++ (toL s).drop i
  nl : (10 : UInt8) ∉ toL t
  go : m ≠ 0 → m ≤ 201 ∧ ∃ f, (lrest s m).size < f ∧ parseF s = parseGo s f (m - 1)
theorem PInv.start (s : ByteArray) : PInv s 0 0 ⟨#[]⟩ := ⟨Nat.zero_le _, rfl, by decide, fun h => absurd rfl h⟩
theorem PInv.size {s t : ByteArray} {m i : Nat} (h : PInv s m i t) : t.size ≤ s.size := by
  have := congrArg List.length h.rest
  rw [List.length_append, toL_len, toL_len] at this
  have := lrest_size s m
  omega
theorem PInv.step {s t : ByteArray} {m i : Nat} (h : PInv s m i t) (hi : i < s.size) (hb : byteAt s i ≠ 10) : PInv s m (i + 1) (t ++ s.extract i (i + 1)) := by
  obtain ⟨x, h1, h2⟩ := drop_at hi
  have hx := toL_at h1 hi
  refine ⟨hi, ?_, ?_, h.go⟩
  · rw [h.rest, h1, toL_append, hx]
    simp
  · rw [toL_append, hx, List.mem_append, List.mem_singleton, not_or]
    refine ⟨h.nl, fun e => hb ?_⟩
    rw [h2, ← e]
    rfl
theorem PInv.line {s t : ByteArray} {m i : Nat} (h : PInv s m i t) (hi : i < s.size) (hb : byteAt s i = 10) : lend s m = true ∧ lrow s m = t ∧ toL (lrest s (m + 1)) = (toL s).drop (i + 1) ∧ ¬ lrest s m = ⟨#[]⟩ := by
  obtain ⟨x, h1, h2⟩ := drop_at hi
  have hx : x = 10 := by
    refine UInt8.toNat_inj.1 ?_
    have : ((x.toNat : Nat) : Int) = 10 := by rw [← h2]; exact hb
    show x.toNat = 10
    omega
  have hr := h.rest
  rw [h1, hx] at hr
  obtain ⟨g1, g2, g3⟩ := cut_of hr h.nl
  refine ⟨g1, toL_inj g2, g3, fun e => ?_⟩
  rw [toL_nil.1 e] at hr
  simp at hr
theorem PInv.bad0 {s t : ByteArray} {i : Nat} (h : PInv s 0 i t) (hi : i < s.size) (hb : byteAt s i = 10) (hc : beginsB (bgRp t) = false) : refF s = (pl0, 1) := by
  obtain ⟨g1, g2, g3, _⟩ := h.line hi hb
  refine refF_of ?_
  unfold parseF
  rw [g1, g2, begin_eq, hc]
  rfl
theorem PInv.good0 {s t : ByteArray} {i : Nat} (h : PInv s 0 i t) (hi : i < s.size) (hb : byteAt s i = 10) (hc : beginsB (bgRp t) = true) : PInv s 1 (i + 1) ⟨#[]⟩ := by
  obtain ⟨g1, g2, g3, _⟩ := h.line hi hb
  refine ⟨hi, g3, by decide, fun _ => ⟨by decide, s.size + 1, Nat.lt_succ_of_le (lrest_size s 1), ?_⟩⟩
  unfold parseF
  rw [g1, g2, begin_eq, hc]
  rfl
theorem PInv.next {s t : ByteArray} {m i : Nat} (h : PInv s (m + 1) i t) (hne : ¬ lrest s (m + 1) = ⟨#[]⟩) : ∃ f, (lrest s (m + 2)).size < f ∧ parseF s = bif badL s m then (pl0, 250, (m : Int) + 2) else parseGo s f (m + 1) := by
  obtain ⟨_, f, hf, hp⟩ := h.go (Nat.succ_ne_zero m)
  obtain ⟨f, rfl⟩ : ∃ k, f = k + 1 := ⟨f - 1, by omega⟩
  have e : (!sEq (lrest s (m + 1)) ⟨#[]⟩) = true := by
    cases hs : sEq (lrest s (m + 1)) ⟨#[]⟩ with
    | false => rfl
    | true => exact absurd (sEq_iff.1 hs) hne
  have := (cutZ_size (lrest s (m + 1)) 10).2 (ne_size hne)
  refine ⟨f, by show (cutZ (lrest s (m + 1)) 10).size < f; omega, ?_⟩
  rw [hp, Nat.add_sub_cancel, parseGo, e]
  rfl
theorem PInv.bad {s t : ByteArray} {m i : Nat} (h : PInv s (m + 1) i t) (hi : i < s.size) (hb : byteAt s i = 10) (hc : rightB (deedR t) = false ∨ m = 200) : refF s = (pl0, (m : Int) + 2) := by
  obtain ⟨g1, g2, g3, g4⟩ := h.line hi hb
  obtain ⟨f, _, hp⟩ := h.next g4
  refine refF_of ?_
  rw [hp]
  have : badL s m = true := by
    unfold badL
    rw [g1, g2, deed_eq]
    rcases hc with hc | rfl
    · rw [hc]
      rfl
    · cases rightB (deedR t) <;> rfl
  rw [this]
  rfl
theorem PInv.good {s t : ByteArray} {m i : Nat} (h : PInv s (m + 1) i t) (hi : i < s.size) (hb : byteAt s i = 10) (hc : rightB (deedR t) = true) (hm : m ≠ 200) : PInv s (m + 2) (i + 1) ⟨#[]⟩ ∧ m < 200 := by
  obtain ⟨g1, g2, g3, g4⟩ := h.line hi hb
  obtain ⟨f, hf, hp⟩ := h.next g4
  have h2 := (h.go (Nat.succ_ne_zero m)).1
  have : badL s m = false := by
    unfold badL
    rw [g1, g2, deed_eq, hc]
    show ((m : Int) == 200) = false
    simp
    omega
  rw [this, cond_false] at hp
  exact ⟨⟨hi, g3, by decide, fun _ => ⟨by omega, f, hf, hp⟩⟩, by omega⟩
theorem PInv.tail {s t : ByteArray} {m : Nat} (h : PInv s m s.size t) : lrest s m = t ∧ lend s m = false := by
  have hr := h.rest
  rw [← toL_len, List.drop_length, List.append_nil] at hr
  have e := toL_inj hr
  refine ⟨e, ?_⟩
  cases hl : lend s m with
  | false => rfl
  | true =>
    have := (cut_hit hl).1
    rw [e] at this
    refine absurd ?_ h.nl
    rw [this]
    simp
theorem PInv.end0 {s t : ByteArray} (h : PInv s 0 s.size t) : refF s = (pl0, 1) := by
  refine refF_of ?_
  unfold parseF
  rw [h.tail.2]
  rfl
theorem PInv.end1 {s t : ByteArray} {m : Nat} (h : PInv s (m + 1) s.size t) (ht : ¬ t = ⟨#[]⟩) : refF s = (pl0, (m : Int) + 2) := by
  obtain ⟨g1, g2⟩ := h.tail
  obtain ⟨f, _, hp⟩ := h.next (by rw [g1]; exact ht)
  refine refF_of ?_
  rw [hp]
  have : badL s m = true := by
    unfold badL
    rw [g2]
    rfl
  rw [this]
  rfl
theorem PInv.end2 {s t : ByteArray} {m : Nat} (h : PInv s (m + 1) s.size t) (ht : t = ⟨#[]⟩) : refF s = (refP s m, 0) := by
  obtain ⟨g1, g2⟩ := h.tail
  obtain ⟨_, f, hf, hp⟩ := h.go (Nat.succ_ne_zero m)
  obtain ⟨f, rfl⟩ : ∃ k, f = k + 1 := ⟨f - 1, by omega⟩
  refine refF_ok ?_
  rw [hp, Nat.add_sub_cancel, parseGo, g1, sEq_iff.2 ht]
  rfl
end Go.Proofs.YtmpddomgiplnmaaDoor.Abs
