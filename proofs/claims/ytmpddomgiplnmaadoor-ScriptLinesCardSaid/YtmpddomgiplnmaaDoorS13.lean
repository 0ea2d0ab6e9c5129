/-
  ScriptLines, WALKED.
-/
import Derived.Test.YtmpddomgiplnmaaDoorS12
namespace Go.Proofs.YtmpddomgiplnmaaDoor.Abs
open Go
set_option maxRecDepth 10000

noncomputable section

def tl1 : Tab := tabC2 14 sA kA (fun s k => .cv (iint (cntB s k))) (fun _ _ => True) tc3
theorem tl1_ok : TabOk Tryd.prog tl1 := tabC2_ok rfl (fun s k _ => countS s k) tc3_ok

def tl2 : Tab := tabC1 15 ddA (fun d => .cv (ibool (rightB d))) (fun _ => True) tl1
theorem tl2_ok : TabOk Tryd.prog tl2 := tabC1_ok rfl (fun d _ => IsDeed d) tl1_ok

def tl3 : Tab := tabC1 16 ddA (fun d => .cv (str (linF (wordK d.kind) d.nums d.nums.n))) (fun d => RightD d) tl2
theorem tl3_ok : TabOk Tryd.prog tl3 := tabC1_ok rfl (fun d hq => Line d hq) tl2_ok

theorem cat_count (f : Nat → List UInt8) : ∀ m k, (∀ r, k ≤ r → r < k + m → (10 : UInt8) ∉ f r) → (cat f m k).count 10 = m
  | 0, _, _ => rfl
  | m + 1, k, h => by
    rw [cat, List.count_append, List.count_cons_self, List.count_eq_zero.2 (h k (Nat.le_refl _) (by omega)), cat_count f m (k + 1) fun r h1 h2 => h r (by omega) (by omega)]
    omega
theorem print_count {p : Pl} (h : RightB p = true) : cntB (printS p) 10 = p.deeds.n + 1 := by
  have hR := RightB_iff.1 h
  rw [cntB_eq]
  unfold printS
  rw [h, cond_true, prF_toL]
  refine cat_count _ _ _ fun r _ hr => ?_
  cases r with
  | zero => exact rowL_nl _ _ (by decide)
  | succ r => exact rowL_nl _ _ (word_ok (isK_of (hR.ds r (by omega)))).2.1
/-- One more deed. -/
def moreP (p : Pl) (d : Dd) : Pl := ⟨p.procs, p.nodes, ⟨p.deeds.n + 1, fun i => bif Nat.blt i p.deeds.n then p.deeds.at_ i else d⟩⟩
theorem more_at {p : Pl} {d : Dd} {i : Nat} (h : i < p.deeds.n) : (moreP p d).deeds.at_ i = p.deeds.at_ i := by
  show (bif Nat.blt i p.deeds.n then p.deeds.at_ i else d) = _
  rw [blt_t h]
  rfl
theorem more_last {p : Pl} {d : Dd} : (moreP p d).deeds.at_ p.deeds.n = d := by
  show (bif Nat.blt p.deeds.n p.deeds.n then p.deeds.at_ p.deeds.n else d) = _
  rw [blt_f (Nat.le_refl _)]
  rfl
theorem more_right {p : Pl} {d : Dd} (h : RightB p = true) : RightB (moreP p d) = true ↔ rightB d = true ∧ ¬ p.deeds.n = 200 := by
  have hR := RightB_iff.1 h
  constructor
  · intro g
    have hG := RightB_iff.1 g
    refine ⟨?_, fun e => ?_⟩
    · have := hG.ds p.deeds.n (Nat.lt_succ_self _)
      rw [more_last] at this
      exact rightB_iff.2 this
    · have : p.deeds.n + 1 ≤ 200 := hG.n
      omega
  · rintro ⟨h1, h2⟩
    refine RightB_iff.2 ⟨hR.p1, hR.p8, hR.n1, hR.n512, ?_, fun i hi => ?_⟩
    · have := hR.n
      show p.deeds.n + 1 ≤ 200
      omega
    · have hi : i < p.deeds.n + 1 := hi
      rcases Nat.lt_or_ge i p.deeds.n with h3 | h3
      · rw [more_at h3]
        exact hR.ds i h3
      · obtain rfl : i = p.deeds.n := by omega
        rw [more_last]
        exact rightB_iff.1 h1
theorem more_prF {p : Pl} {d : Dd} : ∀ i, i ≤ p.deeds.n → prF (moreP p d) i = prF p i
  | 0, _ => rfl
  | i + 1, hi => by rw [prF, prF, more_prF i (by omega), more_at (by omega)]
theorem more_print {p : Pl} {d : Dd} (h : RightB p = true) (hd : rightB d = true) (hn : ¬ p.deeds.n = 200) : printS (moreP p d) = printS p ++ linF (wordK d.kind) d.nums d.nums.n ++ ⟨#[10]⟩ := by
  unfold printS
  rw [h, (more_right h).2 ⟨hd, hn⟩, cond_true, cond_true]
  show prF (moreP p d) (p.deeds.n + 1) = _
  rw [prF, more_prF _ (Nat.le_refl _), more_last, (word_ok (isK_of (rightB_iff.1 hd))).2.2, lineF, ByteArray.append_assoc]
theorem fewP_p {p : Pl} {m : Nat} : ∀ i, i < (fewP p m).deeds.n → ((fewP p m).deeds.at_ i).nums.n ≤ 8 := fun i _ => by
  show min (p.deeds.at_ i).nums.n 8 ≤ _
  omega

def e_ScriptLinesW3 : WEnv Tryd.prog lay := ⟨{ tab := tl3, fz := fun i => bif Nat.beq i 2 then [1] else bif Nat.beq i 7 then [5] else [], cb := fun i => bif Nat.beq i 7 then some ([0, 0, 2, 7, 0, 16, 63, 127, 255], [true, false, false, true, false, false, true, false, true]) else bif Nat.beq i 9 then some ([0, 1, 0, 4, 12, 28, 63, 127, 255, 511, 1023], [false, false, false, false, false, false, false, false, false, false, false]) else none, stop := fun i => Nat.beq i 8 }, good, rfl, tl3_ok, (et0_ok _)⟩
def e_ScriptLinesW4 : WEnv Tryd.prog lay := ⟨{ tab := tl3, fz := fun i => bif Nat.beq i 2 then [1] else bif Nat.beq i 7 then [5] else [], cb := fun i => bif Nat.beq i 7 then some ([0, 0, 2, 7, 0, 16, 63, 127, 255], [true, false, false, true, false, false, true, false, true]) else bif Nat.beq i 9 then some ([0, 1, 0, 4, 12, 28, 63, 127, 255, 511, 1023], [false, false, false, false, false, false, false, false, false, false, false]) else none }, good, rfl, tl3_ok, (et0_ok _)⟩
def e_ScriptLinesW : WEnv Tryd.prog lay := ⟨{ tab := tl3, fz := fun i => bif Nat.beq i 2 then [1] else bif Nat.beq i 7 then [5] else [], cb := fun i => bif Nat.beq i 7 then some ([0, 0, 2, 7, 0, 16, 63, 127, 255], [true, false, false, true, false, false, true, false, true]) else bif Nat.beq i 9 then some ([0, 1, 0, 4, 12, 28, 63, 127, 255, 511, 1023], [false, false, false, false, false, false, false, false, false, false, false]) else none, stop := fun i => Nat.beq i 2 || Nat.beq i 3 || Nat.beq i 8 }, good, rfl, tl3_ok, (et0_ok _)⟩
def e_ScriptLinesW2 : WEnv Tryd.prog lay := ⟨{ tab := tl3, fz := fun i => bif Nat.beq i 2 then [1] else bif Nat.beq i 7 then [5] else [], cb := fun i => bif Nat.beq i 7 then some ([0, 0, 2, 7, 0, 16, 63, 127, 255], [true, false, false, true, false, false, true, false, true]) else bif Nat.beq i 9 then some ([0, 1, 0, 4, 12, 28, 63, 127, 255, 511, 1023], [false, false, false, false, false, false, false, false, false, false, false]) else none, stop := fun i => Nat.beq i 3 || Nat.beq i 8 }, good, rfl, tl3_ok, (et0_ok _)⟩
set_option maxHeartbeats 1000000 in
theorem ScriptLinesW (p : Pl) (d : Dd) : PCall Tryd.prog 5 [plC p, ddC d] (.cv (ibool true)) := by
  refine pwalk e_ScriptLinesW Tryd.func5 rfl 78 rfl rfl ?_
  repeat' (first | refine And.intro ?_ ?_ | refine iT fun _ _ => ?_ | refine iF fun _ _ => ?_ | intro _ | exact sE | exact bE | exact trivial | exact rfl | assumption | exact slOk_lit | exact slOk_f | exact slOk_nil | omega | contradiction)
  obtain ⟨q, hq⟩ : ∃ q, q = fewP p 205 := ⟨_, rfl⟩
  refine ⟨AW_told [] [(0, .var 24 [.imm (.val (.int .i64 q.procs)), .imm (.val (.int .i64 q.nodes)), .imm (slI ddE q.deeds)])] ?_ (AW_go e_ScriptLinesW2 ?_)⟩
  · repeat' (first | refine And.intro ?_ ?_ | refine iT fun _ _ => ?_ | refine iF fun _ _ => ?_ | intro _ | exact sE | exact bE | exact trivial | exact rfl | assumption)
    rw [hq]
    exact bE
  have h0 : q.deeds.n ≤ 205 := by rw [hq]; show min _ 205 ≤ _; omega
  clear hq
  repeat' (first | refine And.intro ?_ ?_ | refine iT fun _ _ => ?_ | refine iF fun _ _ => ?_ | intro _ | exact sE | exact bE | exact trivial | exact rfl | assumption | exact slOk_lit | exact slOk_f | exact slOk_nil | omega | contradiction | exact bok (by omega) (by decide) | exact slOk_1 rfl | exact slOk_2 rfl rfl | exact h0 | exact slOk_1 ⟨rfl, slOk_lit⟩ | (show (0 : Int) < ((min 1 1 : Nat) : Int); decide))
  obtain ⟨x, hx⟩ : ∃ x, x = fewD d := ⟨_, rfl⟩
  refine ⟨AW_told [] [(1, .var 40 [.imm (.val (.int .i64 x.kind)), .imm (slI i64E x.nums)])] ?_ (AW_go e_ScriptLinesW3 ?_)⟩
  · repeat' (first | refine And.intro ?_ ?_ | refine iT fun _ _ => ?_ | refine iF fun _ _ => ?_ | intro _ | exact sE | exact bE | exact trivial | exact rfl | assumption)
    rw [hx]
    exact bE
  have hx0 : x.nums.n ≤ 8 := by rw [hx]; show min _ 8 ≤ _; omega
  clear hx
  have e1 := @print_e q
  repeat' (first | refine And.intro ?_ ?_ | refine iT fun _ _ => ?_ | refine iF fun _ _ => ?_ | intro _ | exact sE | exact bE | exact trivial | exact rfl | assumption | exact slOk_lit | exact slOk_f | exact slOk_nil | omega | contradiction | exact bok (by omega) (by decide) | exact slOk_1 rfl | exact slOk_2 rfl rfl | (unfold maxLen; omega) | exact slOk_1 ⟨rfl, slOk_lit⟩)
  · rename_i h _
    have h : ¬ printE q = 0 := h
    have hR : RightB q = false := by
      cases hb : RightB q with
      | false => rfl
      | true => exact absurd (e1.2 hb) h
    refine sB ?_
    show (bif aliveB then sEq (printS q) ⟨#[]⟩ else false) = true
    unfold printS
    rw [hR, alive_t]
    exact sEq_iff.2 rfl
  rename_i h _
  have hR : RightB q = true := e1.1 (Classical.byContradiction h)
  obtain ⟨y, hy⟩ : ∃ y, y = moreP q x := ⟨_, rfl⟩
  refine ⟨AW_told [] [(5, .var 24 [.imm (.val (.int .i64 y.procs)), .imm (.val (.int .i64 y.nodes)), .osl 9 2 0 0 y.deeds.n true]), (9, bkR 40 ddE y.deeds)] ?_ (AW_go e_ScriptLinesW4 ?_)⟩
  · repeat' (first | refine And.intro ?_ ?_ | refine iT fun _ _ => ?_ | refine iF fun _ _ => ?_ | intro _ | exact sE | exact bE | exact trivial | exact rfl | assumption | omega)
    · rw [hy]
      refine bV ⟨CLe.refl _, CLe.refl _, cL ?_, trivial⟩
      show 0 + q.deeds.n + 1 = q.deeds.n + 1
      omega
    · rw [hy]
      refine bR ?_ fun a b ha hb => ?_
      · show q.deeds.n + 1 = 0 + q.deeds.n + 1
        omega
      show (bif Nat.blt a (0 + q.deeds.n) then (bif Nat.blt a 0 then _ else ddE.f (q.deeds.at_ (a - 0)) b) else [IV.val (.int .i64 x.kind), slI i64E x.nums].getD (plusN 0 (a - (0 + q.deeds.n)) * 2 + b) ivDef) = ddE.f (bif Nat.blt a q.deeds.n then q.deeds.at_ a else x) b
      have ha : a < 0 + q.deeds.n + 1 := ha
      rw [Nat.zero_add] at ha ⊢
      rw [blt0, plusN_eq]
      rcases Nat.lt_or_ge a q.deeds.n with h1 | h1
      · rw [blt_t h1]
        rfl
      · obtain rfl : a = q.deeds.n := by omega
        rw [blt_f h1, Nat.sub_self, Nat.zero_add]
        rfl
  have hyn : y.deeds.n = q.deeds.n + 1 := by rw [hy]; rfl
  have hyr : RightB y = true ↔ rightB x = true ∧ ¬ q.deeds.n = 200 := by rw [hy]; exact more_right hR
  have hys : rightB x = true → ¬ q.deeds.n = 200 → printS y = printS q ++ linF (wordK x.kind) x.nums x.nums.n ++ ⟨#[10]⟩ := fun h1 h2 => by rw [hy]; exact more_print hR h1 h2
  clear hy
  have hz := @printS_size q
  have hz1 : rightB x = true → (printS q).size + (linF (wordK x.kind) x.nums x.nums.n).size ≤ 1000000 := fun h => by
    have hd := rightB_iff.1 h
    have h1 := linF_size (wordK x.kind) x.nums hd.small x.nums.n (Nat.le_refl _)
    have h2 := @wordM_size x.kind
    rw [(word_ok (isK_of hd)).2.2] at h2
    omega
  have hw : IntKind.i64.wrap ((q.deeds.n : Int) + 1) = q.deeds.n + 1 := by rw [IntKind.wrap_i64]; omega
  have hx1 : (bif !rightB x then true else (q.deeds.n : Int) == 200) = false → rightB x = true := fun h => bnot_f (bor_f h).1
  repeat' (first | refine And.intro ?_ ?_ | refine iT fun _ _ => ?_ | refine iF fun _ _ => ?_ | intro _ | exact sE | exact bE | exact trivial | exact rfl | assumption | exact slOk_lit | exact slOk_f | exact slOk_nil | omega | contradiction | exact bok (by omega) (by decide) | exact slOk_1 rfl | exact slOk_2 rfl rfl | (unfold maxLen; omega) | exact rightB_iff.1 (hx1 (by assumption)) | exact Nat.le_trans (hz1 (hx1 (by assumption))) (by decide))
  · rename_i h
    have h : (bif ((cntB (printS q) 10 : Int) != IntKind.i64.wrap ((q.deeds.n : Int) + 1)) then true else !aliveB) = true := h
    rw [print_count hR, hw, alive_t] at h
    simp at h
  · rename_i h
    have h : (bif !rightB x then true else (q.deeds.n : Int) == 200) = true := h
    refine sB ?_
    show (printE y == 1) = true
    have hn : RightB y = false := by
      cases hb : RightB y with
      | false => rfl
      | true =>
        obtain ⟨h1, h2⟩ := hyr.1 hb
        rw [h1] at h
        have : (q.deeds.n : Int) = 200 := by simpa using h
        omega
    unfold printE
    rw [hn]
    rfl
  · have h := hz1 (hx1 (by assumption))
    show (printS q ++ linF (wordK x.kind) x.nums x.nums.n).size + 1 ≤ _
    rw [ByteArray.size_append]
    omega
  · rename_i h
    have h : (bif !rightB x then true else (q.deeds.n : Int) == 200) = false := h
    have h1 := hx1 h
    have h2 : ¬ q.deeds.n = 200 := fun e => by
      have := (bor_f h).2
      rw [e] at this
      cases this
    refine sB ?_
    show (bif printE y == 0 then sEq (printS y) (printS q ++ linF (wordK x.kind) x.nums x.nums.n ++ ⟨#[10]⟩) else false) = true
    rw [print_e.2 (hyr.2 ⟨h1, h2⟩), hys h1 h2]
    exact sEq_iff.2 rfl

end
end Go.Proofs.YtmpddomgiplnmaaDoor.Abs
