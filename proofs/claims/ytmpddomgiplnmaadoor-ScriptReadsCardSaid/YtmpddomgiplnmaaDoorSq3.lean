/-
  WHAT IS PRINTED IS PARSED AS THAT PLAN; WHAT IS PARSED, PRINTED, IS THE TEXT: plainly. No program in sight.
-/
import Derived.Test.YtmpddomgiplnmaaDoorSq2
namespace Go.Proofs.YtmpddomgiplnmaaDoor.Abs
open Go Go.Lib

/-- m lines from the k-th on, each with its end. -/
def cat (f : Nat → List UInt8) : Nat → Nat → List UInt8
  | 0, _ => []
  | m + 1, k => f k ++ 10 :: cat f m (k + 1)
theorem cat_snoc (f : Nat → List UInt8) : ∀ m k, cat f (m + 1) k = cat f m k ++ (f (k + m) ++ [10])
  | 0, k => by simp [cat]
  | m + 1, k => by
    rw [cat, cat_snoc f m (k + 1), cat]
    rw [show k + 1 + m = k + (m + 1) from by omega]
    simp
theorem cat_congr {f g : Nat → List UInt8} : ∀ m k, (∀ r, k ≤ r → r < k + m → f r = g r) → cat f m k = cat g m k
  | 0, _, _ => rfl
  | m + 1, k, h => by rw [cat, cat, h k (Nat.le_refl _) (by omega), cat_congr m (k + 1) fun r h1 h2 => h r (by omega) (by omega)]
def storeW : ByteArray := ⟨#[115, 116, 111, 114, 101]⟩
def RW (p : Pl) : Nat → List UInt8
  | 0 => rowL storeW (two p.procs p.nodes)
  | i + 1 => rowL (wordM (p.deeds.at_ i).kind) (p.deeds.at_ i).nums
theorem prF_toL (p : Pl) : ∀ i, toL (prF p i) = cat (RW p) (i + 1) 0
  | 0 => by
    show toL (lineF storeW (two p.procs p.nodes)) = _
    rw [lineF_toL]
    rfl
  | i + 1 => by
    rw [prF, toL_append, prF_toL p i, cat_snoc _ (i + 1), lineF_toL, Nat.zero_add]
    rfl
/-- A text by its lines. -/
theorem lines_cat (s : ByteArray) : ∀ m, (∀ q, q < m → lend s q = true) → toL s = cat (fun q => toL (lrow s q)) m 0 ++ toL (lrest s m)
  | 0, _ => rfl
  | m + 1, h => by
    have ih := lines_cat s m fun q hq => h q (by omega)
    have := (cut_hit (h m (by omega))).1
    rw [cat_snoc, Nat.zero_add]
    rw [this] at ih
    rw [ih, List.append_assoc, List.append_assoc]
    rfl
theorem lines_of {s : ByteArray} {f : Nat → List UInt8} {m : Nat} (h : toL s = cat f m 0) (hf : ∀ r, r < m → (10 : UInt8) ∉ f r) : ∀ r, r ≤ m → toL (lrest s r) = cat f (m - r) r
  | 0, _ => h
  | r + 1, hr => by
    have ih := lines_of h hf r (by omega)
    rw [show m - r = (m - (r + 1)) + 1 from by omega, cat] at ih
    exact (cut_of ih (hf r (by omega))).2.2
theorem line_of {s : ByteArray} {f : Nat → List UInt8} {m : Nat} (h : toL s = cat f m 0) (hf : ∀ r, r < m → (10 : UInt8) ∉ f r) {r : Nat} (hr : r < m) : lend s r = true ∧ toL (lrow s r) = f r := by
  have ih := lines_of h hf r (by omega)
  rw [show m - r = (m - (r + 1)) + 1 from by omega, cat] at ih
  obtain ⟨h1, h2, _⟩ := cut_of ih (hf r hr)
  exact ⟨h1, h2⟩
/-! ### A parse that succeeds -/
theorem go_ok (s : ByteArray) : ∀ f i, (lrest s (i + 1)).size < f → (parseGo s f i).2.1 = 0 → ∃ m, i ≤ m ∧ lrest s (m + 1) = ⟨#[]⟩ ∧ parseGo s f i = (planI s m, 0, 0) ∧ ∀ q, i ≤ q → q < m → badL s q = false
  | 0, i, h, _ => absurd h (Nat.not_lt_zero _)
  | f + 1, i, h, he => by
    rw [parseGo] at he ⊢
    cases h1 : (!sEq (lrest s (i + 1)) ⟨#[]⟩) with
    | false => exact ⟨i, Nat.le_refl _, sEq_iff.1 (bnot_f h1), rfl, fun q h2 h3 => by omega⟩
    | true =>
      rw [h1, cond_true] at he
      cases h2 : badL s i with
      | true => rw [h2] at he; cases he
      | false =>
        rw [h2, cond_false] at he
        have hne : ¬ lrest s (i + 1) = ⟨#[]⟩ := fun e => by
          have := bnot_t h1
          rw [sEq_iff.2 e] at this
          cases this
        have := (cutZ_size (lrest s (i + 1)) 10).2 (ne_size hne)
        obtain ⟨m, g1, g2, g3, g4⟩ := go_ok s f (i + 1) (by show (cutZ (lrest s (i + 1)) 10).size < f; omega) he
        refine ⟨m, by omega, g2, ?_, fun q h3 h4 => ?_⟩
        · rw [cond_true, cond_false]
          exact g3
        · rcases Nat.eq_or_lt_of_le h3 with rfl | h5
          · exact h2
          · exact g4 q h5 h4
theorem go_bad (s : ByteArray) : ∀ f i, (parseGo s f i).2.1 ≠ 0 → (parseGo s f i).1 = pl0
  | 0, _, h => absurd rfl h
  | f + 1, i, h => by
    rw [parseGo] at h ⊢
    cases h1 : (!sEq (lrest s (i + 1)) ⟨#[]⟩) with
    | false => rw [h1] at h; exact absurd rfl h
    | true =>
      rw [h1, cond_true] at h
      rw [cond_true]
      cases h2 : badL s i with
      | true => rfl
      | false =>
        rw [h2, cond_false] at h
        rw [cond_false]
        exact go_bad s f (i + 1) h
theorem parse_bad {s : ByteArray} (h : (parseF s).2.1 ≠ 0) : (parseF s).1 = pl0 := by
  unfold parseF at h ⊢
  cases h1 : (bif !lend s 0 then true else !bgOkS (lrow s 0)) with
  | true => rfl
  | false =>
    rw [h1, cond_false] at h
    rw [cond_false]
    exact go_bad s _ 0 h
theorem like_refl (p : Pl) : LikeP p p := ⟨rfl, rfl, rfl, fun _ _ => ⟨rfl, rfl, fun _ _ => rfl⟩⟩
theorem parse_ok {s : ByteArray} (h : (parseF s).2.1 = 0) : (lend s 0 = true ∧ bgOkS (lrow s 0) = true) ∧ ∃ m, lrest s (m + 1) = ⟨#[]⟩ ∧ parseF s = (planI s m, 0, 0) ∧ ∀ q, q < m → badL s q = false := by
  unfold parseF at h ⊢
  cases h1 : (bif !lend s 0 then true else !bgOkS (lrow s 0)) with
  | true => rw [h1] at h; cases h
  | false =>
    rw [h1, cond_false] at h
    obtain ⟨h2, h3⟩ := bor_f h1
    obtain ⟨m, g1, g2, g3, g4⟩ := go_ok s (s.size + 1) 0 (Nat.lt_succ_of_le (lrest_size s 1)) h
    refine ⟨⟨bnot_f h2, bnot_f h3⟩, m, g2, ?_, fun q hq => g4 q (Nat.zero_le _) hq⟩
    rw [cond_false]
    exact g3
theorem begin_row {s : ByteArray} (h : bgOkS s = true) : bgBad s = false ∧ beginsB (bgP s) = true ∧ rowL storeW (two (bgP s).procs (bgP s).nodes) = toL s := by
  unfold bgOkS at h
  cases h1 : bgBad s with
  | true => rw [h1] at h; cases h
  | false =>
    rw [h1, cond_false] at h
    unfold bgOk at h
    obtain ⟨h2, h3⟩ := band_t h
    unfold bgBad at h1
    have h4 := sEq_iff.1 (bnot_f (bor_f h1).2)
    have h5 := congrArg toL (sEq_iff.1 h3)
    rw [lineF_toL, toL_append, h4] at h5
    refine ⟨rfl, h2, ?_⟩
    have h5 : rowL storeW (two (bgP s).procs (bgP s).nodes) ++ [10] = toL s ++ [10] := h5
    exact List.append_cancel_right h5
theorem deed_row {s : ByteArray} (h : deedB s = true) : rightB (deedD s) = true ∧ rowL (wordM (deedD s).kind) (deedD s).nums = toL s := by
  unfold deedB at h
  cases h1 : kindS s == 0 with
  | true => rw [h1] at h; cases h
  | false =>
    rw [h1, cond_false] at h
    obtain ⟨h2, h3⟩ := band_t h
    refine ⟨h2, ?_⟩
    have hk : (deedD s).kind = kindS s := by
      unfold deedD
      rw [h1]
      rfl
    have hK := (kndOf_isK (w := (splitS s 32).at_ 0) (fun e => by
      have e : kindS s = 0 := e
      rw [e] at h1
      cases h1)).1
    have hw : wordM (deedD s).kind = wordK (kindS s) := by
      unfold wordM
      rw [hk]
      show (bif isK (kndOf ((splitS s 32).at_ 0)) then _ else _) = _
      rw [hK]
      rfl
    have h5 := congrArg toL (sEq_iff.1 h3)
    rw [lineF_toL, toL_append] at h5
    rw [hw]
    exact List.append_cancel_right h5
/-- What is parsed of any text, printed, is the text. -/
theorem back_text {s : ByteArray} (h : (parseF s).2.1 = 0) : RightB (parseF s).1 = true ∧ printS (parseF s).1 = s := by
  obtain ⟨⟨h1, h2⟩, m, h3, h4, h5⟩ := parse_ok h
  obtain ⟨b1, b2, b3⟩ := begin_row h2
  have hp : planI s m = ⟨(bgP (lrow s 0)).procs, (bgP (lrow s 0)).nodes, ⟨m, fun q => deedD (lrow s (q + 1))⟩⟩ := by
    unfold planI
    rw [b1]
    rfl
  have hq : ∀ q, q < m → lend s (q + 1) = true ∧ deedB (lrow s (q + 1)) = true ∧ ¬ q = 200 := fun q hq => by
    have := h5 q hq
    unfold badL at this
    obtain ⟨g1, g2⟩ := bor_f this
    obtain ⟨g3, g4⟩ := bor_f g1
    exact ⟨bnot_f g3, bnot_f g4, fun e => by rw [e] at g2; cases g2⟩
  have hm : m ≤ 200 := by
    refine Nat.le_of_not_lt fun hlt => ?_
    exact (hq 200 hlt).2.2 rfl
  rw [h4, hp]
  have hR : RightB ⟨(bgP (lrow s 0)).procs, (bgP (lrow s 0)).nodes, ⟨m, fun q => deedD (lrow s (q + 1))⟩⟩ = true := by
    have := beginsB_iff.1 b2
    exact RightB_iff.2 ⟨this.1.1, this.1.2, this.2.1, this.2.2, hm, fun i hi => rightB_iff.1 (deed_row (hq i hi).2.1).1⟩
  refine ⟨hR, toL_inj ?_⟩
  unfold printS
  rw [hR, cond_true, prF_toL]
  have hl := lines_cat s (m + 1) fun q hq' => by
    cases q with
    | zero => exact h1
    | succ q => exact (hq q (by omega)).1
  rw [h3] at hl
  rw [hl]
  show _ = _ ++ ([] : List UInt8)
  rw [List.append_nil]
  refine cat_congr (m + 1) 0 fun r _ hr => ?_
  cases r with
  | zero => exact b3
  | succ r => exact (deed_row (hq r (by omega)).2.1).2
/-! ### What is printed -/
theorem word_ok {k : Int} (h : isK k = true) : (32 : UInt8) ∉ toL (wordM k) ∧ (10 : UInt8) ∉ toL (wordM k) ∧ wordM k = wordK k := by
  rcases isK_cases h with rfl | rfl | rfl | rfl | rfl | rfl | rfl <;> decide
theorem isK_of {d : Dd} (h : RightD d) : isK d.kind = true := by
  unfold isK
  rw [decide_eq_true h.k1, decide_eq_true h.k7]
  rfl
theorem deed_back {d : Dd} (h : RightD d) {s : ByteArray} (hs : toL s = rowL (wordM d.kind) d.nums) : deedB s = true ∧ LikeD d (deedD s) := by
  obtain ⟨w1, w2, w3⟩ := word_ok (isK_of h)
  have hsp : splitL 32 (toL s) = toL (wordM d.kind) :: (List.range d.nums.n).map fun i => toL (wrF (d.nums.at_ i)) := by rw [hs, rowL_split _ _ w1]
  have hn : (splitS s 32).n = d.nums.n + 1 := by rw [split_n, hsp]; simp
  have h0 : (splitS s 32).at_ 0 = wordK d.kind := by
    have := split_at s 32 0 (by omega)
    rw [hsp] at this
    have := Option.some.inj this
    exact toL_inj (this.symm.trans (by rw [w3]))
  have hi : ∀ i, i < d.nums.n → (splitS s 32).at_ (1 + i) = wrF (d.nums.at_ i) := fun i hi => by
    have := split_at s 32 (1 + i) (by omega)
    rw [hsp, Nat.add_comm 1 i, List.getElem?_cons_succ, List.getElem?_map, List.getElem?_range hi] at this
    have := Option.some.inj this
    rw [Nat.add_comm 1 i]
    exact toL_inj this.symm
  have hk : kindS s = d.kind := by
    unfold kindS
    rw [h0]
    exact kndOf_hit (isK_of h)
  have hk0 : (d.kind == 0) = false := by
    have := h.k1
    simp
    omega
  have hD : deedD s = ⟨d.kind, numsF (tailS (splitS s 32))⟩ := by
    unfold deedD
    rw [hk, hk0]
    rfl
  have hN : (numsF (tailS (splitS s 32))).n = d.nums.n := by
    show (((splitS s 32).n : Int) - 1).toNat = _
    omega
  have hv : ∀ i, i < d.nums.n → (numsF (tailS (splitS s 32))).at_ i = d.nums.at_ i := fun i hi' => by
    show numF ((splitS s 32).at_ (1 + i)) = _
    rw [hi i hi']
    have := h.big i hi'
    exact numF_wrF (by omega) (by omega)
  have hL : LikeD d (deedD s) := by
    rw [hD]
    exact ⟨rfl, hN.symm, fun i hi => (hv i hi).symm⟩
  refine ⟨?_, hL⟩
  have hr : rightB (deedD s) = true := rightB_iff.2 (by
    rw [hD]
    exact ⟨h.k1, h.k7, by show ((numsF (tailS (splitS s 32))).n : Int) = _; rw [hN]; exact h.n, fun i hi => by
      have hi : i < (numsF (tailS (splitS s 32))).n := hi
      rw [hN] at hi
      show _ ≤ (numsF (tailS (splitS s 32))).at_ i ∧ (numsF (tailS (splitS s 32))).at_ i ≤ _
      rw [hv i hi]
      exact h.big i hi⟩)
  unfold deedB
  rw [hk, hk0, cond_false, hr, cond_true]
  refine sEq_iff.2 (toL_inj ?_)
  rw [lineF_toL, toL_append, hs, w3]
  rw [rowL_congr (w := wordK d.kind) hL.n hL.v]
theorem begin_back {a b : Int} (ha : 1 ≤ a ∧ a ≤ 8) (hb : 1 ≤ b ∧ b ≤ 512) {s : ByteArray} (hs : toL s = rowL storeW (two a b)) : bgOkS s = true ∧ bgBad s = false ∧ (bgP s).procs = a ∧ (bgP s).nodes = b := by
  have hsp : splitL 32 (toL s) = [toL storeW, toL (wrF a), toL (wrF b)] := by
    rw [hs, rowL_split _ _ (by decide)]
    rfl
  have hn : (splitS s 32).n = 3 := by rw [split_n, hsp]; rfl
  have h0 : (splitS s 32).at_ 0 = storeW := by
    have := split_at s 32 0 (by omega)
    rw [hsp] at this
    exact toL_inj (Option.some.inj this).symm
  have h1 : (splitS s 32).at_ 1 = wrF a := by
    have := split_at s 32 1 (by omega)
    rw [hsp] at this
    exact toL_inj (Option.some.inj this).symm
  have h2 : (splitS s 32).at_ 2 = wrF b := by
    have := split_at s 32 2 (by omega)
    rw [hsp] at this
    exact toL_inj (Option.some.inj this).symm
  have e1 : (bgP s).procs = a := by
    show numF ((splitS s 32).at_ 1) = a
    rw [h1, numF_wrF (by omega) (by omega)]
  have e2 : (bgP s).nodes = b := by
    show numF ((splitS s 32).at_ 2) = b
    rw [h2, numF_wrF (by omega) (by omega)]
  have hb' : bgBad s = false := by
    unfold bgBad
    rw [hn, h0, show sEq storeW ⟨#[115, 116, 111, 114, 101]⟩ = true from sEq_iff.2 rfl]
    rfl
  refine ⟨?_, hb', e1, e2⟩
  unfold bgOkS bgOk
  rw [hb', cond_false, beginsB_iff.2 (by rw [e1, e2]; exact ⟨ha, hb⟩), cond_true, e1, e2, h0]
  refine sEq_iff.2 (toL_inj ?_)
  rw [lineF_toL, toL_append, hs]
/-- What is printed is parsed as that plan. -/
theorem back_plan {p : Pl} (h : RightB p = true) : (parseF (printS p)).2.1 = 0 ∧ (parseF (printS p)).2.2 = 0 ∧ LikeP p (parseF (printS p)).1 := by
  have hR := RightB_iff.1 h
  have hT : toL (printS p) = cat (RW p) (p.deeds.n + 1) 0 := by
    unfold printS
    rw [h, cond_true, prF_toL]
  have hf : ∀ r, r < p.deeds.n + 1 → (10 : UInt8) ∉ RW p r := fun r hr => by
    cases r with
    | zero => exact rowL_nl _ _ (by decide)
    | succ r => exact rowL_nl _ _ (word_ok (isK_of (hR.ds r (by omega)))).2.1
  generalize printS p = T at hT ⊢
  obtain ⟨e0, r0⟩ := line_of hT hf (r := 0) (by omega)
  obtain ⟨b1, b2, b3, b4⟩ := begin_back ⟨hR.p1, hR.p8⟩ ⟨hR.n1, hR.n512⟩ (s := lrow T 0) r0
  have hq : ∀ q, q < p.deeds.n → badL T q = false ∧ LikeD (p.deeds.at_ q) (deedD (lrow T (q + 1))) := fun q hq => by
    obtain ⟨e1, r1⟩ := line_of hT hf (r := q + 1) (by omega)
    obtain ⟨d1, d2⟩ := deed_back (hR.ds q hq) r1
    refine ⟨?_, d2⟩
    unfold badL
    rw [e1, d1]
    have := hR.n
    show ((q : Int) == 200) = false
    simp
    omega
  have hlast : lrest T (p.deeds.n + 1) = ⟨#[]⟩ := toL_nil.2 (by
    rw [lines_of hT hf _ (Nat.le_refl _), Nat.sub_self]
    rfl)
  have hne : ∀ i, i < p.deeds.n → sEq (lrest T (i + 1)) ⟨#[]⟩ = false := fun i hi => by
    cases hs : sEq (lrest T (i + 1)) ⟨#[]⟩ with
    | false => rfl
    | true =>
      have := toL_nil.1 (sEq_iff.1 hs)
      rw [lines_of hT hf _ (by omega), show p.deeds.n + 1 - (i + 1) = (p.deeds.n - (i + 1)) + 1 from by omega, cat] at this
      exact absurd this (by simp)
  have hgo : ∀ f i, i ≤ p.deeds.n → p.deeds.n - i < f → parseGo T f i = (planI T p.deeds.n, 0, 0) := by
    intro f
    induction f with
    | zero => intro i _ h; omega
    | succ f ih =>
      intro i hi hlt
      rw [parseGo]
      rcases Nat.lt_or_ge i p.deeds.n with h1 | h1
      · rw [hne i h1, (hq i h1).1]
        exact ih (i + 1) h1 (by omega)
      · obtain rfl : i = p.deeds.n := by omega
        rw [hlast, sEq_iff.2 rfl]
        rfl
  have hsz : p.deeds.n < T.size + 1 := by
    rw [← toL_len, hT]
    have : ∀ m k, m ≤ (cat (RW p) m k).length := by
      intro m
      induction m with
      | zero => intro k; exact Nat.zero_le _
      | succ m ih =>
        intro k
        rw [cat, List.length_append, List.length_cons]
        have := ih (k + 1)
        omega
    have := this (p.deeds.n + 1) 0
    omega
  have hpf : parseF T = (planI T p.deeds.n, 0, 0) := by
    unfold parseF
    rw [e0, b1]
    exact hgo _ 0 (Nat.zero_le _) (by omega)
  rw [hpf]
  refine ⟨rfl, rfl, ?_, ?_, rfl, fun i hi => (hq i hi).2⟩
  · show p.procs = bif bgBad (lrow T 0) then 0 else (bgP (lrow T 0)).procs
    rw [b2, b3]
    rfl
  · show p.nodes = bif bgBad (lrow T 0) then 0 else (bgP (lrow T 0)).nodes
    rw [b2, b4]
    rfl
theorem like_right {p q : Pl} (h : LikeP p q) (hp : RightB p = true) : RightB q = true := by
  have hR := RightB_iff.1 hp
  refine RightB_iff.2 ⟨h.procs ▸ hR.p1, h.procs ▸ hR.p8, h.nodes ▸ hR.n1, h.nodes ▸ hR.n512, h.n ▸ hR.n, fun i hi => ?_⟩
  have hi : i < p.deeds.n := h.n ▸ hi
  have hd := h.d i hi
  have hr := hR.ds i hi
  exact ⟨hd.kind ▸ hr.k1, hd.kind ▸ hr.k7, by rw [← hd.n, ← hd.kind]; exact hr.n, fun j hj => by
    have hj : j < (p.deeds.at_ i).nums.n := hd.n ▸ hj
    rw [← hd.v j hj]
    exact hr.big j hj⟩
/-- The plan without deeds. -/
theorem right29 : RightB pl29 = true := RightB_iff.2 ⟨by decide, by decide, by decide, by decide, Nat.zero_le _, fun i hi => absurd hi (Nat.not_lt_zero i)⟩
theorem alive_t : aliveB = true := by
  obtain ⟨h1, h2, h3⟩ := back_plan right29
  have hp : printS pl29 = aliveS := by
    refine toL_inj ?_
    unfold printS
    rw [right29, cond_true, prF_toL]
    show rowL storeW (two 2 9) ++ [10] = _
    have e2 : toL (wrF 2) = [50] := by
      show toL (digs 2) = _
      unfold digs
      rw [if_pos (by decide)]
      rfl
    have e9 : toL (wrF 9) = [57] := by
      show toL (digs 9) = _
      unfold digs
      rw [if_pos (by decide)]
      rfl
    show (toL storeW ++ ((32 :: toL (wrF 2)) ++ ((32 :: toL (wrF 9)) ++ []))) ++ [10] = _
    rw [e2, e9]
    rfl
  unfold aliveB
  have e1 : printE pl29 = 0 := by
    unfold printE
    rw [right29]
    rfl
  rw [e1, h1, hp, sEq_iff.2 rfl, like_right (hp ▸ h3) right29]
  have := h3.nodes
  rw [hp] at this
  rw [← this]
  rfl
end Go.Proofs.YtmpddomgiplnmaaDoor.Abs
