/-
  THE REFERENCE: kinds, deeds and plans that may be, lines, texts.
-/
import Derived.Test.YtmpddomgiplnmaaDoorS10
import Derived.Test.YtmpddomgiplnmaaDoorSq3
namespace Go.Proofs.YtmpddomgiplnmaaDoor.Abs
open Go
set_option maxRecDepth 10000

noncomputable section

def e_rnums : WEnv Tryd.prog lay := ⟨{ tab := tab0 }, good, rfl, (tab0_ok _), (et0_ok _)⟩
def e_rword : WEnv Tryd.prog lay := ⟨{ tab := tab0 }, good, rfl, (tab0_ok _), (et0_ok _)⟩
theorem isK_of_le {k : Int} (h : 1 ≤ k ∧ k ≤ 7) : isK k = true := by
  unfold isK
  rw [decide_eq_true h.1, decide_eq_true h.2]
  rfl
theorem rnums (k : Int) (h : 1 ≤ k ∧ k ≤ 7) : PCall Tryd.prog 34 [iint k] (.cv (iint (numsK k))) := by
  rcases isK_cases (isK_of_le h) with rfl | rfl | rfl | rfl | rfl | rfl | rfl
  all_goals (refine pwalk e_rnums Tryd.func34 rfl 7 rfl rfl ?_; repeat' (first | refine And.intro ?_ ?_ | refine iT fun _ _ => ?_ | refine iF fun _ _ => ?_ | intro _ | exact sE | exact bE | exact trivial | exact rfl | assumption | omega | (rw [plusN_eq]; omega)))
theorem rword (k : Int) (h : 1 ≤ k ∧ k ≤ 7) : PCall Tryd.prog 35 [iint k] (.cv (str (wordK k))) := by
  rcases isK_cases (isK_of_le h) with rfl | rfl | rfl | rfl | rfl | rfl | rfl
  all_goals (refine pwalk e_rword Tryd.func35 rfl 7 rfl rfl ?_; repeat' (first | refine And.intro ?_ ?_ | refine iT fun _ _ => ?_ | refine iF fun _ _ => ?_ | intro _ | exact sE | exact bE | exact trivial | exact rfl | assumption | omega | (rw [plusN_eq]; omega)))

def r1 : Tab := tabC1 34 nI (fun k => .cv (iint (numsK k))) (fun k => 1 ≤ k ∧ k ≤ 7) ta3
theorem r1_ok : TabOk Tryd.prog r1 := tabC1_ok rfl (fun k hq => rnums k hq) ta3_ok

def r2 : Tab := tabC1 35 nI (fun k => .cv (str (wordK k))) (fun k => 1 ≤ k ∧ k ≤ 7) r1
theorem r2_ok : TabOk Tryd.prog r2 := tabC1_ok rfl (fun k hq => rword k hq) r1_ok

def e_IsDeed : WEnv Tryd.prog lay := ⟨{ tab := r2, cb := fun i => bif Nat.beq i 1 then some ([0, 1, 3, 7, 15, 31, 63, 127, 255, 511, 1023, 2047, 511, 4607, 12799, 32767, 65535], [false, false, false, false, false, false, false, false, false, false, false, false, false, false, false, false, false]) else none }, good, rfl, r2_ok, (et0_ok _)⟩
theorem IsDeed (d : Dd) : PCall Tryd.prog 15 [ddC d] (.cv (ibool (rightB d))) := by
  refine pwalk e_IsDeed Tryd.func15 rfl 36 rfl rfl ?_
  have ht : RightD d → rightB d = true := rightB_iff.2
  have hf : ¬ RightD d → rightB d = false := fun h => by
    cases hb : rightB d with
    | false => rfl
    | true => exact absurd (rightB_iff.1 hb) h
  repeat' (first | refine And.intro ?_ ?_ | refine iT fun _ _ => ?_ | refine iF fun _ _ => ?_ | intro _ | exact sE | exact bE | exact trivial | exact rfl | assumption | omega)
  · rename_i h _
    refine sB (hf fun g => ?_).symm
    have := g.k1; have := g.k7; have := g.n
    omega
  rename_i h0 _
  have hk : 1 ≤ d.kind ∧ d.kind ≤ 7 ∧ (d.nums.n : Int) = numsK d.kind := by omega
  have hnk := @numsK_le d.kind
  refine ⟨AW_loopW e_IsDeed [23, 24] [] (fun (i : Nat) => [(25, .cv (iint i))]) (fun i => []) (fun i => d.nums.n - i) (fun i => i ≤ d.nums.n ∧ ∀ q, q < i → -1073741824 ≤ d.nums.at_ q ∧ d.nums.at_ q ≤ 1073741824) (0) ?_ ?_⟩
  · repeat' (first | refine And.intro ?_ ?_ | refine iT fun _ _ => ?_ | refine iF fun _ _ => ?_ | intro _ | exact sE | exact bE | exact trivial | exact rfl | assumption | omega)
  rintro i ⟨hi, hs⟩
  repeat' (first | refine And.intro ?_ ?_ | refine iT fun _ _ => ?_ | refine iF fun _ _ => ?_ | intro _ | exact sE | exact bE | exact trivial | exact rfl | assumption | omega)
  · rename_i h _
    refine sB (hf fun g => ?_).symm
    have := g.big i (by omega)
    have h : d.nums.at_ i < -1073741824 ∨ d.nums.at_ i > 1073741824 := h
    omega
  · rename_i h _
    have h : ¬(d.nums.at_ i < -1073741824 ∨ d.nums.at_ i > 1073741824) := h
    refine ⟨i + 1, [], ?_⟩
    repeat' (first | refine And.intro ?_ ?_ | refine iT fun _ _ => ?_ | refine iF fun _ _ => ?_ | intro _ | exact sE | exact bE | exact trivial | exact rfl | assumption | omega | exact sW (by omega) (by omega) (by omega) | (dsimp only; omega))
    all_goals
      rename_i q hq
      rcases Nat.lt_succ_iff_lt_or_eq.1 hq with h3 | rfl
      · have := hs q h3
        omega
      · omega
  · exact sB (ht ⟨hk.1, hk.2.1, hk.2.2, fun q hq => hs q (by omega)⟩).symm

def r3 : Tab := tabC1 15 ddA (fun d => .cv (ibool (rightB d))) (fun _ => True) r2
theorem r3_ok : TabOk Tryd.prog r3 := tabC1_ok rfl (fun d _ => IsDeed d) r2_ok

def e_Begins : WEnv Tryd.prog lay := ⟨{ tab := tab0 }, good, rfl, (tab0_ok _), (et0_ok _)⟩
theorem Begins (p : Pl) : PCall Tryd.prog 29 [plC p] (.cv (ibool (beginsB p))) := by
  refine pwalk e_Begins Tryd.func29 rfl 21 rfl rfl ?_
  repeat' (first | refine And.intro ?_ ?_ | refine iT fun _ _ => ?_ | refine iF fun _ _ => ?_ | intro _ | exact sE | exact bE | exact trivial | exact rfl | assumption)

def r4 : Tab := tabC1 29 plA (fun p => .cv (ibool (beginsB p))) (fun _ => True) r3
theorem r4_ok : TabOk Tryd.prog r4 := tabC1_ok rfl (fun p _ => Begins p) r3_ok

def e_RightR : WEnv Tryd.prog lay := ⟨{ tab := r4 }, good, rfl, r4_ok, (et0_ok _)⟩
theorem RightR (p : Pl) (hp : p.deeds.n ≤ 1000000) : PCall Tryd.prog 17 [plC p] (.cv (ibool (RightB p))) := by
  refine pwalk e_RightR Tryd.func17 rfl 24 rfl rfl ?_
  have hf : ¬ RightP_ p → RightB p = false := fun h => by
    cases hb : RightB p with
    | false => rfl
    | true => exact absurd (RightB_iff.1 hb) h
  repeat' (first | refine And.intro ?_ ?_ | refine iT fun _ _ => ?_ | refine iF fun _ _ => ?_ | intro _ | exact sE | exact bE | exact trivial | exact rfl | assumption | omega | exact slOk_lit | exact slOk_f | exact slOk_nil)
  refine ⟨AW_loopW e_RightR [1, 6, 7] [] (fun (i : Nat) => [(8, .cv (iint i))]) (fun i => []) (fun i => p.deeds.n - i) (fun i => i ≤ p.deeds.n ∧ ∀ q, q < i → rightB (p.deeds.at_ q) = true) (0) ?_ ?_⟩
  · repeat' (first | refine And.intro ?_ ?_ | refine iT fun _ _ => ?_ | refine iF fun _ _ => ?_ | intro _ | exact sE | exact bE | exact trivial | exact rfl | assumption | omega)
  rintro i ⟨hi, hs⟩
  repeat' (first | refine And.intro ?_ ?_ | refine iT fun _ _ => ?_ | refine iF fun _ _ => ?_ | intro _ | exact sE | exact bE | exact trivial | exact rfl | assumption | omega | exact slOk_lit | exact slOk_f | exact slOk_nil)
  · rename_i h
    have h : rightB (p.deeds.at_ i) = false := bnot_t h
    refine sB (hf fun g => ?_).symm
    rw [rightB_iff.2 (g.ds i (by omega))] at h
    cases h
  · rename_i h
    have h : rightB (p.deeds.at_ i) = true := bnot_f h
    refine ⟨i + 1, [], ?_⟩
    repeat' (first | refine And.intro ?_ ?_ | refine iT fun _ _ => ?_ | refine iF fun _ _ => ?_ | intro _ | exact sE | exact bE | exact trivial | exact rfl | assumption | omega | exact sW (by omega) (by omega) (by omega) | (dsimp only; omega))
    rename_i q hq
    rcases Nat.lt_succ_iff_lt_or_eq.1 hq with h3 | rfl
    · exact hs q h3
    · exact h
  · have hany : anyB (fun i => !rightB (p.deeds.at_ i)) p.deeds.n = false := anyB_false.2 fun q hq => by rw [hs q (by omega)]; rfl
    refine sB ?_
    show (bif decide ((p.deeds.n : Int) ≤ 200) then beginsB p else false) = RightB p
    unfold RightB
    rw [hany]
    cases beginsB p <;> cases decide ((p.deeds.n : Int) ≤ 200) <;> rfl

def r5 : Tab := tabC2 36 nI nI (fun n b => .cv (str (wrF n))) (fun n b => -4611686018427387904 < n ∧ n < 4611686018427387904 ∧ b = 10) r4
theorem r5_ok : TabOk Tryd.prog r5 := tabC2_ok rfl (fun n b hq => (by obtain ⟨h1, h2, rfl⟩ := hq; exact formatInt n ⟨h1, h2⟩)) r4_ok

def e_Line : WEnv Tryd.prog lay := ⟨{ tab := r5 }, good, rfl, r5_ok, (et0_ok _)⟩
theorem Line (d : Dd) (hd : RightD d) : PCall Tryd.prog 16 [ddC d] (.cv (str (linF (wordK d.kind) d.nums d.nums.n))) := by
  refine pwalk e_Line Tryd.func16 rfl 23 rfl rfl ?_
  have hk := hd.k1; have hk7 := hd.k7; have hn := hd.n; have hnk := @numsK_le d.kind
  have hw : (wordK d.kind).size ≤ 5 := by
    have := @wordM_size d.kind
    rwa [(word_ok (isK_of hd)).2.2] at this
  repeat' (first | refine And.intro ?_ ?_ | refine iT fun _ _ => ?_ | refine iF fun _ _ => ?_ | intro _ | exact sE | exact bE | exact trivial | exact rfl | assumption | omega)
  refine ⟨AW_loopW e_Line [10, 11] [] (fun (i : Nat) => [(3, .cv (str (linF (wordK d.kind) d.nums i))), (12, .cv (iint i))]) (fun i => []) (fun i => d.nums.n - i) (fun i => i ≤ d.nums.n) (0) ?_ ?_⟩
  · repeat' (first | refine And.intro ?_ ?_ | refine iT fun _ _ => ?_ | refine iF fun _ _ => ?_ | intro _ | exact sE | exact bE | exact trivial | exact rfl | assumption | omega)
  intro i hi
  have hz := linF_size (wordK d.kind) d.nums hd.small i hi
  have hb : i < d.nums.n → -4611686018427387904 < d.nums.at_ i ∧ d.nums.at_ i < 4611686018427387904 := fun h => by
    have := hd.big i h
    omega
  have hz2 : i < d.nums.n → (linF (wordK d.kind) d.nums i ++ ⟨#[32]⟩).size + (wrF (d.nums.at_ i)).size ≤ 9223372036854775807 := fun h => by
    have := hb h
    have := wrF_size (n := d.nums.at_ i) (by omega) (by omega)
    rw [ByteArray.size_append, sp_size]
    omega
  repeat' (first | refine And.intro ?_ ?_ | refine iT fun _ _ => ?_ | refine iF fun _ _ => ?_ | intro _ | exact sE | exact bE | exact trivial | exact rfl | assumption | omega | (show (linF (wordK d.kind) d.nums i).size + 1 ≤ _; omega) | exact (hb (by omega)).1 | exact (hb (by omega)).2 | exact hz2 (by omega))
  · refine ⟨i + 1, [], ?_⟩
    repeat' (first | refine And.intro ?_ ?_ | refine iT fun _ _ => ?_ | refine iF fun _ _ => ?_ | intro _ | exact sE | exact bE | exact trivial | exact rfl | assumption | omega | exact sW (by omega) (by omega) (by omega) | (dsimp only; omega))
    refine sS ?_
    show linF (wordK d.kind) d.nums i ++ ⟨#[32]⟩ ++ wrF (d.nums.at_ i) = _
    rw [linF, ByteArray.append_assoc]
  · obtain rfl : i = d.nums.n := by omega
    exact sE

def r6 : Tab := tabC1 16 ddA (fun d => .cv (str (linF (wordK d.kind) d.nums d.nums.n))) (fun d => RightD d) r5
theorem r6_ok : TabOk Tryd.prog r6 := tabC1_ok rfl (fun d hq => Line d hq) r5_ok

def r7 : Tab := tabC1 37 nI (fun n => .cv (str (wrF n))) (fun n => -4611686018427387904 < n ∧ n < 4611686018427387904) r6
theorem r7_ok : TabOk Tryd.prog r7 := tabC1_ok rfl (fun n hq => itoaP n hq) r6_ok

def headR (p : Pl) : ByteArray := ⟨#[115, 116, 111, 114, 101, 32]⟩ ++ wrF p.procs ++ ⟨#[32]⟩ ++ wrF p.nodes ++ ⟨#[10]⟩
theorem headR_eq (p : Pl) : headR p = headF p := toL_inj (by
  show _ = toL (lineF storeW (two p.procs p.nodes))
  rw [lineF_toL]
  unfold headR
  rw [toL_append, toL_append, toL_append, toL_append]
  show ((([115, 116, 111, 114, 101, 32] ++ toL (wrF p.procs)) ++ [32]) ++ toL (wrF p.nodes)) ++ [10] = (toL storeW ++ ((32 :: toL (wrF p.procs)) ++ ((32 :: toL (wrF p.nodes)) ++ []))) ++ [10]
  show ((([115, 116, 111, 114, 101, 32] ++ toL (wrF p.procs)) ++ [32]) ++ toL (wrF p.nodes)) ++ [10] = ([115, 116, 111, 114, 101] ++ ((32 :: toL (wrF p.procs)) ++ ((32 :: toL (wrF p.nodes)) ++ []))) ++ [10]
  simp)
theorem s6_size : (ByteArray.mk #[115, 116, 111, 114, 101, 32]).size = 6 := rfl

def e_TextR : WEnv Tryd.prog lay := ⟨{ tab := r7, cb := fun i => bif Nat.beq i 1 then some ([0, 1, 3, 7, 15, 0, 32, 103, 255, 511, 1023], [false, false, false, false, false, false, false, false, false, false, false]) else none }, good, rfl, r7_ok, (et0_ok _)⟩
theorem TextR (p : Pl) (hR : RightP_ p) : PCall Tryd.prog 18 [plC p] (.cv (str (prF p p.deeds.n))) := by
  refine pwalk e_TextR Tryd.func18 rfl 30 rfl rfl ?_
  have h1 := hR.p1; have h2 := hR.p8; have h3 := hR.n1; have h4 := hR.n512; have hn := hR.n
  have w1 := wrF_size (n := p.procs) (by omega) (by omega)
  have w2 := wrF_size (n := p.nodes) (by omega) (by omega)
  have z1 : (ByteArray.mk #[115, 116, 111, 114, 101, 32]).size + (wrF p.procs).size ≤ 9223372036854775807 := by rw [s6_size]; omega
  have z2 : (⟨#[115, 116, 111, 114, 101, 32]⟩ ++ wrF p.procs).size + (ByteArray.mk #[32]).size ≤ 9223372036854775807 := by rw [ByteArray.size_append, s6_size, sp_size]; omega
  have z3 : (⟨#[115, 116, 111, 114, 101, 32]⟩ ++ wrF p.procs ++ ⟨#[32]⟩).size + (wrF p.nodes).size ≤ 9223372036854775807 := by rw [ByteArray.size_append, ByteArray.size_append, s6_size, sp_size]; omega
  have z4 : (⟨#[115, 116, 111, 114, 101, 32]⟩ ++ wrF p.procs ++ ⟨#[32]⟩ ++ wrF p.nodes).size + (ByteArray.mk #[10]).size ≤ 9223372036854775807 := by rw [ByteArray.size_append, ByteArray.size_append, ByteArray.size_append, s6_size, sp_size, nl_size]; omega
  repeat' (first | refine And.intro ?_ ?_ | refine iT fun _ _ => ?_ | refine iF fun _ _ => ?_ | intro _ | exact sE | exact bE | exact trivial | exact rfl | assumption | omega)
  refine ⟨AW_loopW e_TextR [17, 18] [] (fun (i : Nat) => [(3, .cv (str (prF p i))), (19, .cv (iint i))]) (fun i => []) (fun i => p.deeds.n - i) (fun i => i ≤ p.deeds.n) (0) ?_ ?_⟩
  · repeat' (first | refine And.intro ?_ ?_ | refine iT fun _ _ => ?_ | refine iF fun _ _ => ?_ | intro _ | exact sE | exact bE | exact trivial | exact rfl | assumption | omega)
    exact sS (headR_eq p)
  intro i hi
  have f1 : i < p.deeds.n → (prF p i).size + (linF (wordK (p.deeds.at_ i).kind) (p.deeds.at_ i).nums (p.deeds.at_ i).nums.n).size + 1 ≤ 9223372036854775807 := fun h => by
    have := prF_size hR (i + 1) h
    rw [prF, ByteArray.size_append, lineF, ByteArray.size_append, nl_size, (word_ok (isK_of (hR.ds i h))).2.2] at this
    omega
  repeat' (first | refine And.intro ?_ ?_ | refine iT fun _ _ => ?_ | refine iF fun _ _ => ?_ | intro _ | exact sE | exact bE | exact trivial | exact rfl | assumption | omega | exact slOk_lit | exact slOk_f | exact slOk_nil | exact hR.ds i (by omega) | exact Nat.le_trans (Nat.le_succ _) (f1 (by omega)) | (rw [ByteArray.size_append]; exact f1 (by omega)))
  · refine ⟨i + 1, [], ?_⟩
    repeat' (first | refine And.intro ?_ ?_ | refine iT fun _ _ => ?_ | refine iF fun _ _ => ?_ | intro _ | exact sE | exact bE | exact trivial | exact rfl | assumption | omega | exact sW (by omega) (by omega) (by omega) | (dsimp only; omega))
    refine sS ?_
    show prF p i ++ linF (wordK (p.deeds.at_ i).kind) (p.deeds.at_ i).nums (p.deeds.at_ i).nums.n ++ ⟨#[10]⟩ = _
    rw [prF, lineF, (word_ok (isK_of (hR.ds i (by omega)))).2.2, ByteArray.append_assoc]
  · obtain rfl : i = p.deeds.n := by omega
    exact sE

end
end Go.Proofs.YtmpddomgiplnmaaDoor.Abs
