/-
  THE LAW HeapLeast, AS IT IS WALKED.
-/
import Derived.Test.YtadgjhbhghhbgaaHp17
namespace Go.Proofs.Ytadgjhbhghhbgaa.Abs
open Go
set_option maxRecDepth 10000

def lsChain (A e f g h m y s : Bool) : Bool := bif (bif (bif (bif (bif (bif (bif A then e else false) then f else false) then g else false) then h else false) then m else false) then y else false) then s else false
noncomputable def leastR (X : Sl Item) (x : Item) : Bool := lsChain aliveB ((insA (arL X) (layRf 0 X) x).2.2 == 0) (minE (insA (arL X) (layRf 0 X) x).1 (insA (arL X) (layRf 0 X) x).2.1 == 0)
  ((popC (insA (arL X) (layRf 0 X) x).1 (insA (arL X) (layRf 0 X) x).2.1).2.2.1 == 0)
  (itemsE (popC (insA (arL X) (layRf 0 X) x).1 (insA (arL X) (layRf 0 X) x).2.1).1 (popC (insA (arL X) (layRf 0 X) x).1 (insA (arL X) (layRf 0 X) x).2.1).2.1 == 0)
  (itEq (minX (insA (arL X) (layRf 0 X) x).1 (insA (arL X) (layRf 0 X) x).2.1) ((withI X x).at_ 0)) (itEq (popX (insA (arL X) (layRf 0 X) x).1 (insA (arL X) (layRf 0 X) x).2.1) ((withI X x).at_ 0))
  (sameI (itemsL (popC (insA (arL X) (layRf 0 X) x).1 (insA (arL X) (layRf 0 X) x).2.1).1 (popC (insA (arL X) (layRf 0 X) x).1 (insA (arL X) (layRf 0 X) x).2.1).2.1) (tailI (withI X x)))

set_option maxHeartbeats 2000000 in
theorem lawLeast (l : Sl Item) (x : Item) : PCall Try.prog 8 [.one (.imm (slI itE l)), itC x] (.cv (ibool (leastR (rowB 20 l l.n) x))) := by
  refine PCall_of (ACall_body good Try.func8 rfl 121 rfl (by simp) ?_)
  refine AW_lenle 0 rfl (fun hml => ?_)
  refine AW_seq ?_
  refine AW_all good th22 (th22_ok) rfl rfl ?_ ?_
  · repeat' (first | exact trivial | exact rfl | exact (fun _ _ => rfl) | refine And.intro ?_ ?_ | intro _)
  refine AW_seq ?_
  refine AW_all good th22 (th22_ok) rfl rfl ?_ ?_
  · repeat' (first | exact trivial | exact rfl | exact (fun _ _ => rfl) | refine And.intro ?_ ?_ | intro _)
  refine AW_seq ?_
  refine AW_seq ?_
  refine AW_all good th22 (th22_ok) rfl rfl ?_ ?_
  · repeat' (first | exact trivial | exact rfl | exact (fun _ _ => rfl) | refine And.intro ?_ ?_ | intro _)
  refine AW_block ?_
  refine AW_loopX [3, 23, 24] [0] (fun j : { i : Nat // i ≤ l.n } => [(25, .cv (iint j.1)), (5, .cv (.one (.imm (slI itE (rowB 20 l j.1)))))]) (fun j => []) (fun j => l.n - j.1) ⟨0, Nat.zero_le _⟩ ⟨SLe.of_eq rfl, SLe.cv (CLe.imm (ILe.sl rfl (by simp) (.inl rfl))), trivial⟩ trivial ?_
  rintro ⟨i, hi⟩
  dsimp only at hi ⊢
  have hrl : (rowB 20 l i).n ≤ 512 := by rw [rowB_n]; omega
  refine AW_seq ?_
  refine AW_all good th22 (th22_ok) rfl rfl ?_ ?_
  · repeat' (first | exact trivial | exact rfl | exact (fun _ _ => rfl) | refine And.intro ?_ ?_ | intro _)
  refine AW_seq ?_
  refine AW_cond rfl (fun h1 => ?_) (fun h1 => ?_)
  · first
    | (exfalso; simp_all; done)
    | (
        refine AW_skip ?_
        refine AW_seq ?_
        refine AW_block ?_
        refine AW_seq ?_
        have hlt : i < l.n := by
          have h : (i : Int) < (l.n : Int) := of_decide_eq_true (by assumption)
          omega
        refine AW_all good th22 (th22_ok) rfl rfl ?_ ?_
        · repeat' (first | exact trivial | exact rfl | exact (fun _ _ => rfl) | refine And.intro ?_ ?_ | intro _)
          all_goals omega
        refine AW_seq ?_
        refine AW_all good th22 (th22_ok) rfl rfl ?_ ?_
        · repeat' (first | exact trivial | exact rfl | exact (fun _ _ => rfl) | refine And.intro ?_ ?_ | intro _)
        refine AW_cond rfl (fun h2 => ?_) (fun h2 => ?_)
        · first
          | (exfalso; simp_all; done)
          | (
              have h20 : i < 20 := by
                have h : (i : Int) < 20 := of_decide_eq_true (by assumption)
                omega
              refine AW_all good th22 (th22_ok) rfl rfl ?_ ?_
              · repeat' (first | exact trivial | exact rfl | exact (fun _ _ => rfl) | refine And.intro ?_ ?_ | intro _)
                all_goals (first | exact hrl | exact slOk_lit)
              skip
              refine AW_all good th22 (th22_ok) rfl rfl ?_ ?_
              · repeat' (first | exact trivial | exact rfl | exact (fun _ _ => rfl) | refine And.intro ?_ ?_ | intro _)
              refine loopX_next ⟨i + 1, hlt⟩ [0] rfl rfl ⟨SLe.of_eq (congrArg (fun z => SV.cv (iint z)) (next_int i l.n hlt hml)), SLe.of_eq (congrArg (fun z => SV.cv (.one (.imm (slI itE z)))) (rowB_t h20).symm), trivial⟩ ⟨SLe.of_eq rfl, SLe.of_eq rfl, SLe.of_eq rfl, trivial⟩ trivial ⟨⟨rfl, _, _, rfl, rfl, BLe.of_eq rfl⟩, trivial⟩ ?_
              show l.n - (i + 1) < l.n - i
              omega
          )
        · first
          | (exfalso; simp_all; done)
          | (
              refine AW_skip ?_
              have h20 : 20 ≤ i := by
                have h : ¬ (i : Int) < 20 := of_decide_eq_false (by assumption)
                omega
              refine AW_all good th22 (th22_ok) rfl rfl ?_ ?_
              · repeat' (first | exact trivial | exact rfl | exact (fun _ _ => rfl) | refine And.intro ?_ ?_ | intro _)
              refine loopX_next ⟨i + 1, hlt⟩ [0] rfl rfl ⟨SLe.of_eq (congrArg (fun z => SV.cv (iint z)) (next_int i l.n hlt hml)), SLe.of_eq (congrArg (fun z => SV.cv (.one (.imm (slI itE z)))) (rowB_f h20).symm), trivial⟩ ⟨SLe.of_eq rfl, SLe.of_eq rfl, SLe.of_eq rfl, trivial⟩ trivial ⟨⟨rfl, _, _, rfl, rfl, BLe.of_eq rfl⟩, trivial⟩ ?_
              show l.n - (i + 1) < l.n - i
              omega
          )
    )
  · first
    | (exfalso; simp_all; done)
    | (
        refine AW_exit ?_
        refine AW_seq ?_
        have hend : i = l.n := by
          have h : ¬ (i : Int) < (l.n : Int) := of_decide_eq_false (by assumption)
          omega
        subst hend
        obtain ⟨X, hX⟩ : ∃ X, rowB 20 l l.n = X := ⟨_, rfl⟩
        have hXn : X.n ≤ 20 := by
          rw [← hX, rowB_n]
          omega
        have hlx : (0 : Int).toNat + X.n ≤ 300 := by
          show 0 + X.n ≤ 300
          omega
        have hxl : X.n ≤ 512 := by omega
        refine AW_slot 5 (y := .cv (.one (.imm (slI itE X)))) rfl (SLe.of_eq (by rw [← hX]; rfl)) ?_
        refine AW_all good th22 (th22_ok) rfl rfl ?_ ?_
        · repeat' (first | exact trivial | exact rfl | exact (fun _ _ => rfl) | refine And.intro ?_ ?_ | intro _)
          all_goals (first | omega | exact bytes_okI (by omega) (by omega) (by decide))
        skip
        refine AW_blk 1 rfl (B := bkR 91 ndE ⟨300, fun _ => nd0⟩) (BLe.rows rfl fun i j hi hj => ILe.of_eq (zero_nd hj)) ?_
        refine AW_blk 2 rfl (B := .var 50 [.osl 1 16 0 0 300 false, .imm (.sl 1 0 true fun _ _ => ivDef)]) (BLe.var ⟨CLe.oslf, CLe.imm (ILe.sl rfl (fun _ => rfl) (.inl rfl)), trivial⟩) ?_
        refine AW_seq ?_
        refine AW_eff good th22 (th22_ok) eLay (eLay_ok) [] rfl rfl ?_ ?_
        · repeat' (first | exact trivial | exact rfl | exact (fun _ _ => rfl) | refine And.intro ?_ ?_ | intro _)
          all_goals (first | exact hlx | omega | decide | exact slOk_lit | exact slOk_nil)
        obtain ⟨r, hr⟩ : ∃ r, layRf 0 X = r := ⟨_, rfl⟩
        refine AW_slot 9 (y := .cv (u64 r)) rfl (SLe.of_eq (by rw [← hr]; rfl)) ?_
        refine AW_blk 1 rfl (B := bkR 91 ndE (laidN ⟨300, fun _ => nd0⟩ 0 X X.n)) (BLe.of_eq rfl) ?_
        refine AW_seq ?_
        refine AW_seq ?_
        refine AW_all good th22 (th22_ok) rfl rfl ?_ ?_
        · repeat' (first | exact trivial | exact rfl | exact (fun _ _ => rfl) | refine And.intro ?_ ?_ | intro _)
        refine AW_block ?_
        refine AW_absent 3 1 (fun q _ => .val (.int .i64 (299 - (q : Int)))) ?_
        refine AW_blk 2 rfl (B := .var 50 [.osl 1 16 0 0 300 false, .osl 4 1 0 0 0 true]) (BLe.var ⟨CLe.refl _, CLe.empty, trivial⟩) ?_
        refine AW_loopX [3, 5, 8, 9] [0, 1] (fun j : { k : Nat // k ≤ 300 - X.n } => [(10, .cv (iint (299 - (j.1 : Int))))]) (fun j => [(2, .var 50 [.osl 1 16 0 0 300 false, .osl 4 1 0 0 j.1 true]), (4, bkR 3 intE ⟨j.1, fun q => 299 - (q : Int)⟩)]) (fun j => 300 - X.n - j.1) ⟨0, Nat.zero_le _⟩ ⟨SLe.of_eq rfl, trivial⟩ ⟨⟨_, rfl, BLe.of_eq rfl⟩, ⟨_, rfl, BLe.of_eq rfl⟩, trivial⟩ ?_
        rintro ⟨k, hk⟩
        dsimp only at hk ⊢
        refine AW_seq ?_
        refine AW_seq ?_
        refine AW_all good th22 (th22_ok) rfl rfl ?_ ?_
        · repeat' (first | exact trivial | exact rfl | exact (fun _ _ => rfl) | refine And.intro ?_ ?_ | intro _)
        refine AW_cond rfl (fun h3 => ?_) (fun h3 => ?_)
        · first
          | (exfalso; simp_all; done)
          | (
              refine AW_skip ?_
              refine AW_seq ?_
              refine AW_block ?_
              have hlt : k < 300 - X.n := by
                have h : (299 - (k : Int)) ≥ (X.n : Int) := of_decide_eq_true (by assumption)
                omega
              refine AW_all good th22 (th22_ok) rfl rfl ?_ ?_
              · repeat' (first | exact trivial | exact rfl | exact (fun _ _ => rfl) | refine And.intro ?_ ?_ | intro _)
                all_goals (first | exact Nat.le_refl _ | (unfold maxLen; omega) | exact bytes_ok (by omega) (by decide))
              refine AW_all good th22 (th22_ok) rfl rfl ?_ ?_
              · repeat' (first | exact trivial | exact rfl | exact (fun _ _ => rfl) | refine And.intro ?_ ?_ | intro _)
              refine loopX_next ⟨k + 1, hlt⟩ [0, 1, 2, 3, 6] rfl rfl ⟨SLe.of_eq (congrArg (fun z => SV.cv (iint z)) ?_), trivial⟩ ⟨SLe.of_eq rfl, SLe.of_eq rfl, SLe.of_eq rfl, SLe.of_eq rfl, trivial⟩ ⟨⟨rfl, _, rfl, BLe.of_eq rfl⟩, ⟨rfl, _, rfl, BLe.rows rfl fun q j hq hj => ILe.of_eq ?_⟩, trivial⟩ ⟨⟨rfl, _, _, rfl, rfl, BLe.of_eq rfl⟩, ⟨rfl, _, _, rfl, rfl, BLe.of_eq rfl⟩, trivial⟩ ?_
              · show IntKind.i64.wrap (299 - (k : Int) - 1) = 299 - ((k + 1 : Nat) : Int)
                rw [IntKind.wrap_i64]
                omega
              · obtain rfl : j = 0 := by
                  have : j < 1 := hj
                  omega
                exact cnt_row9 hq
              show 300 - X.n - (k + 1) < 300 - X.n - k
              omega
          )
        · first
          | (exfalso; simp_all; done)
          | (
              refine AW_exit ?_
              refine AW_seq ?_
              have hend : k = 300 - X.n := by
                have h : ¬ (299 - (k : Int)) ≥ (X.n : Int) := of_decide_eq_false (by assumption)
                omega
              subst hend
              refine AW_giveV 1 2 0 rfl rfl rfl rfl ?_ ?_
              · exact Nat.le_of_eq (Nat.zero_add _)
              refine AW_giveV 4 2 1 rfl rfl rfl rfl ?_ ?_
              · exact Nat.le_of_eq (Nat.zero_add _)
              obtain ⟨A, hA⟩ : ∃ A, arL X = A := ⟨_, rfl⟩
              refine AW_blk 2 rfl (B := bkV 50 arE A) (BLe.of_eq (by rw [← hA]; rfl)) ?_
              refine AW_all good th22 (th22_ok) rfl rfl ?_ ?_
              · repeat' (first | exact trivial | exact rfl | exact (fun _ _ => rfl) | refine And.intro ?_ ?_ | intro _)
                all_goals exact slOk_lit
              obtain ⟨p, hp⟩ : ∃ p, insA A r x = p := ⟨_, rfl⟩
              refine AW_blk 5 rfl (B := bkV 50 arE p.1) (BLe.of_eq (by rw [← hp]; rfl)) ?_
              refine AW_slot 12 (y := .cv (u64 p.2.1)) rfl (SLe.of_eq (by rw [← hp]; rfl)) ?_
              refine AW_slot 13 (y := .cv (iint p.2.2)) rfl (SLe.of_eq (by rw [← hp]; rfl)) ?_
              refine AW_seq ?_
              refine AW_all good th22 (th22_ok) rfl rfl ?_ ?_
              · repeat' (first | exact trivial | exact rfl | exact (fun _ _ => rfl) | refine And.intro ?_ ?_ | intro _)
                all_goals exact slOk_lit
              obtain ⟨m, hm⟩ : ∃ m, minX p.1 p.2.1 = m := ⟨_, rfl⟩
              obtain ⟨f, hf⟩ : ∃ f, minE p.1 p.2.1 = f := ⟨_, rfl⟩
              refine AW_blk 7 rfl (B := bkV 54 itE m) (BLe.of_eq (by rw [← hm]; rfl)) ?_
              refine AW_slot 15 (y := .cv (iint f)) rfl (SLe.of_eq (by rw [← hf]; rfl)) ?_
              refine AW_seq ?_
              refine AW_all good th22 (th22_ok) rfl rfl ?_ ?_
              · repeat' (first | exact trivial | exact rfl | exact (fun _ _ => rfl) | refine And.intro ?_ ?_ | intro _)
                all_goals exact slOk_lit
              obtain ⟨q, hq⟩ : ∃ q, popC p.1 p.2.1 = q := ⟨_, rfl⟩
              obtain ⟨y, hy⟩ : ∃ y, popX p.1 p.2.1 = y := ⟨_, rfl⟩
              refine AW_blk 9 rfl (B := bkV 50 arE q.1) (BLe.of_eq (by rw [← hq]; rfl)) ?_
              refine AW_blk 10 rfl (B := bkV 54 itE y) (BLe.of_eq (by rw [← hy]; rfl)) ?_
              refine AW_slot 17 (y := .cv (u64 q.2.1)) rfl (SLe.of_eq (by rw [← hq]; rfl)) ?_
              refine AW_slot 19 (y := .cv (iint q.2.2.1)) rfl (SLe.of_eq (by rw [← hq]; rfl)) ?_
              refine AW_seq ?_
              refine AW_all good th22 (th22_ok) rfl rfl ?_ ?_
              · repeat' (first | exact trivial | exact rfl | exact (fun _ _ => rfl) | refine And.intro ?_ ?_ | intro _)
                all_goals exact slOk_lit
              obtain ⟨N, hN⟩ : ∃ N, itemsL q.1 q.2.1 = N := ⟨_, rfl⟩
              obtain ⟨h, hh⟩ : ∃ h, itemsE q.1 q.2.1 = h := ⟨_, rfl⟩
              refine AW_slot 20 (y := .cv (.one (.imm (slI itE N)))) rfl (SLe.of_eq (by rw [← hN]; rfl)) ?_
              refine AW_slot 21 (y := .cv (iint h)) rfl (SLe.of_eq (by rw [← hh]; rfl)) ?_
              refine AW_seq ?_
              refine AW_all good th22 (th22_ok) rfl rfl ?_ ?_
              · repeat' (first | exact trivial | exact rfl | exact (fun _ _ => rfl) | refine And.intro ?_ ?_ | intro _)
                all_goals (first | exact hxl | exact slOk_lit)
              obtain ⟨W, hW⟩ : ∃ W, withI X x = W := ⟨_, rfl⟩
              have hal : 0 < W.n := by rw [← hW]; exact Nat.succ_pos _
              refine AW_slot 22 (y := .cv (.one (.imm (slI itE W)))) rfl (SLe.of_eq (by rw [← hW]; rfl)) ?_
              refine AW_seq ?_
              refine AW_drwG good rfl th22 (th22_ok) eLay (eLay_ok) [] [0, 1, 3, 7, 15, 31, 63, 127, 255, 511, 1023, 2047, 4095, 8191, 16383, 32767, 65535, 131071, 262143, 262143, 786431, 1835007, 4194303, 8388607, 16777215, 33554431, 33554431, 100663295, 234881023, 536870911, 1073741823, 2147483647, 4294967295, 4294967295, 12884901887, 34359738367, 68719476735, 137438953471] [false, false, false, false, false, false, false, false, false, false, false, false, false, false, false, false, false, false, false, false, false, false, false, false, false, false, false, false, false, false, false, false, false, false, false, false, false, false] (by rfl) (by rfl) rfl (by rfl) (by rfl) ?_ ?_ ?_
              · repeat' (first | exact trivial | exact rfl | exact (fun _ _ => rfl) | refine And.intro ?_ ?_ | intro _)
                all_goals (first | omega | exact slOk_lit | exact slOk_f | assumption | (rename_i hg; exact eqt hg))
              · repeat' (first | refine And.intro ?_ ?_ | exact trivial | exact rfl | intro _)
                all_goals (first | omega | exact slOk_lit | exact slOk_f | assumption)
              refine AW_ret (bodyQ_ret rfl ?_ (Ends.le rfl ?_ ?_))
              · repeat' (first | exact trivial | exact rfl | exact (fun _ _ => rfl) | refine And.intro ?_ ?_ | intro _)
              · repeat' (first | exact trivial | exact rfl | exact (fun _ _ => rfl) | refine And.intro ?_ ?_ | intro _)
              rw [hX]
              unfold leastR
              rw [hA, hr, hp, hm, hf, hq, hy, hN, hh, hW]
              exact SLe.of_eq rfl
          )
    )

end Go.Proofs.Ytadgjhbhghhbgaa.Abs
