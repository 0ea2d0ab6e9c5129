/-
  THE LAW HeapOlder, AS IT IS WALKED.
-/
import Derived.Test.YtadgjhbhghhbgaaHp17
namespace Go.Proofs.Ytadgjhbhghhbgaa.Abs
open Go
set_option maxRecDepth 10000

def o3Chain (A e f s : Bool) : Bool := bif (bif (bif A then e else false) then f else false) then s else false
def oChain (A e f g h i j s t u v : Bool) : Bool := bif (bif (bif (bif (bif (bif (bif (bif (bif (bif A then e else false) then f else false) then g else false) then h else false) then i else false) then j else false) then s else false) then t else false) then u else false) then v else false
noncomputable def olderR (X : Sl Item) (x : Item) : Bool := bif ((X.n : Int) == 0) then
    o3Chain aliveB ((insA (arL X) (layRf 0 X) x).2.2 == 0) (itemsE (insA (arL X) (layRf 0 X) x).1 (insA (arL X) (layRf 0 X) x).2.1 == 0) (sameI (itemsL (insA (arL X) (layRf 0 X) x).1 (insA (arL X) (layRf 0 X) x).2.1) ⟨1, fun _ => x⟩)
  else oChain aliveB ((insA (arL X) (layRf 0 X) x).2.2 == 0) (itemsE (insA (arL X) (layRf 0 X) x).1 (insA (arL X) (layRf 0 X) x).2.1 == 0)
    ((popC (insA (arL X) (layRf 0 X) x).1 (layRf 0 X)).2.2.1 == 0)
    (itemsE (popC (insA (arL X) (layRf 0 X) x).1 (layRf 0 X)).1 (popC (insA (arL X) (layRf 0 X) x).1 (layRf 0 X)).2.1 == 0)
    (itemsE (popC (insA (arL X) (layRf 0 X) x).1 (layRf 0 X)).1 (layRf 0 X) == 0)
    (itemsE (popC (insA (arL X) (layRf 0 X) x).1 (layRf 0 X)).1 (insA (arL X) (layRf 0 X) x).2.1 == 0)
    (sameI (itemsL (popC (insA (arL X) (layRf 0 X) x).1 (layRf 0 X)).1 (popC (insA (arL X) (layRf 0 X) x).1 (layRf 0 X)).2.1) (tailI X))
    (sameI (itemsL (popC (insA (arL X) (layRf 0 X) x).1 (layRf 0 X)).1 (layRf 0 X)) X)
    (sameI (itemsL (popC (insA (arL X) (layRf 0 X) x).1 (layRf 0 X)).1 (insA (arL X) (layRf 0 X) x).2.1) (itemsL (insA (arL X) (layRf 0 X) x).1 (insA (arL X) (layRf 0 X) x).2.1))
    (sameI (itemsL (insA (arL X) (layRf 0 X) x).1 (insA (arL X) (layRf 0 X) x).2.1) (withI X x))
theorem same_one {M : Sl Item} {f : Nat → Item} {x : Item} (h : f 0 = x) : sameI M ⟨1, f⟩ = sameI M ⟨1, fun _ => x⟩ := by
  subst h
  unfold sameI
  cases hn : ((M.n : Int) != ((1 : Nat) : Int)) with
  | true => rfl
  | false =>
    have hm : M.n = 1 := by
      have : (M.n : Int) = 1 := by simpa using hn
      omega
    show (bif false then false else !anyB (fun i => !itEq (M.at_ i) (f i)) M.n) = (bif false then false else !anyB (fun i => !itEq (M.at_ i) (f 0)) M.n)
    rw [hm, anyB_one, anyB_one]
theorem item_ok {x : Item} : slOk itE (.sl 2 1 false fun i q => (itL x).getD (i * 2 + q) ivDef) := .inr ⟨rfl, fun i hi => by
  obtain rfl : i = 0 := by omega
  exact ⟨rfl, rfl⟩⟩

set_option maxHeartbeats 2000000 in
theorem lawOlder (l : Sl Item) (x : Item) : PCall Try.prog 9 [.one (.imm (slI itE l)), itC x] (.cv (ibool (olderR (rowB 15 l l.n) x))) := by
  refine PCall_of (ACall_body good Try.func9 rfl 162 rfl (by simp) ?_)
  refine AW_lenle 0 rfl (fun hml => ?_)
  refine AW_seq ?_
  refine AW_all good th22 (th22_ok) rfl rfl ?_ ?_
  · repeat' (first | exact trivial | exact rfl | exact (fun _ _ => rfl) | refine And.intro ?_ ?_ | intro _)
    all_goals (first | exact Nat.le_refl _ | exact item_ok | exact hrl | exact hlx | exact hxl | exact hal | omega | (unfold maxLen; omega) | exact bytes_ok (by omega) (by decide) | exact bytes_okI (by omega) (by omega) (by decide) | exact of_decide_eq_true (by assumption) | decide | exact slOk_lit | exact slOk_f | exact slOk_nil | assumption | exact .inl rfl | exact .inr rfl | (rename_i hg; exact hg) | (rename_i hg; exact eqf hg) | (rename_i hg; exact eqt hg) | (rename_i hg; change (_ : Bool) = true; rw [hg]; rfl) | (change (_ : Bool) = true; simp_all; done) | skip)
  refine AW_seq ?_
  refine AW_all good th22 (th22_ok) rfl rfl ?_ ?_
  · repeat' (first | exact trivial | exact rfl | exact (fun _ _ => rfl) | refine And.intro ?_ ?_ | intro _)
    all_goals (first | exact Nat.le_refl _ | exact item_ok | exact hrl | exact hlx | exact hxl | exact hal | omega | (unfold maxLen; omega) | exact bytes_ok (by omega) (by decide) | exact bytes_okI (by omega) (by omega) (by decide) | exact of_decide_eq_true (by assumption) | decide | exact slOk_lit | exact slOk_f | exact slOk_nil | assumption | exact .inl rfl | exact .inr rfl | (rename_i hg; exact hg) | (rename_i hg; exact eqf hg) | (rename_i hg; exact eqt hg) | (rename_i hg; change (_ : Bool) = true; rw [hg]; rfl) | (change (_ : Bool) = true; simp_all; done) | skip)
  refine AW_seq ?_
  refine AW_seq ?_
  refine AW_all good th22 (th22_ok) rfl rfl ?_ ?_
  · repeat' (first | exact trivial | exact rfl | exact (fun _ _ => rfl) | refine And.intro ?_ ?_ | intro _)
    all_goals (first | exact Nat.le_refl _ | exact item_ok | exact hrl | exact hlx | exact hxl | exact hal | omega | (unfold maxLen; omega) | exact bytes_ok (by omega) (by decide) | exact bytes_okI (by omega) (by omega) (by decide) | exact of_decide_eq_true (by assumption) | decide | exact slOk_lit | exact slOk_f | exact slOk_nil | assumption | exact .inl rfl | exact .inr rfl | (rename_i hg; exact hg) | (rename_i hg; exact eqf hg) | (rename_i hg; exact eqt hg) | (rename_i hg; change (_ : Bool) = true; rw [hg]; rfl) | (change (_ : Bool) = true; simp_all; done) | skip)
  refine AW_block ?_
  refine AW_loopX [3, 26, 27] [0] (fun j : { i : Nat // i ≤ l.n } => [(28, .cv (iint j.1)), (5, .cv (.one (.imm (slI itE (rowB 15 l j.1)))))]) (fun j => []) (fun j => l.n - j.1) ⟨0, Nat.zero_le _⟩ ⟨SLe.of_eq rfl, SLe.cv (CLe.imm (ILe.sl rfl (by simp) (.inl rfl))), trivial⟩ trivial ?_
  rintro ⟨i, hi⟩
  dsimp only at hi ⊢
  have hrl : (rowB 15 l i).n ≤ 512 := by rw [rowB_n]; omega
  refine AW_seq ?_
  refine AW_all good th22 (th22_ok) rfl rfl ?_ ?_
  · repeat' (first | exact trivial | exact rfl | exact (fun _ _ => rfl) | refine And.intro ?_ ?_ | intro _)
    all_goals (first | exact Nat.le_refl _ | exact item_ok | exact hrl | exact hlx | exact hxl | exact hal | omega | (unfold maxLen; omega) | exact bytes_ok (by omega) (by decide) | exact bytes_okI (by omega) (by omega) (by decide) | exact of_decide_eq_true (by assumption) | decide | exact slOk_lit | exact slOk_f | exact slOk_nil | assumption | exact .inl rfl | exact .inr rfl | (rename_i hg; exact hg) | (rename_i hg; exact eqf hg) | (rename_i hg; exact eqt hg) | (rename_i hg; change (_ : Bool) = true; rw [hg]; rfl) | (change (_ : Bool) = true; simp_all; done) | skip)
  refine AW_seq ?_
  refine AW_cond rfl (fun h1 => ?_) (fun h1 => ?_)
  · first
    | (exfalso; simp_all; done)
    | (
        refine AW_skip ?_
        refine AW_seq ?_
        refine AW_block ?_
        refine AW_seq ?_
        have hlt : i < l.n := by
          have h : (i : Int) < (l.n : Int) := of_decide_eq_true (by assumption)
          omega
        refine AW_all good th22 (th22_ok) rfl rfl ?_ ?_
        · repeat' (first | exact trivial | exact rfl | exact (fun _ _ => rfl) | refine And.intro ?_ ?_ | intro _)
          all_goals (first | exact Nat.le_refl _ | exact item_ok | exact hrl | exact hlx | exact hxl | exact hal | omega | (unfold maxLen; omega) | exact bytes_ok (by omega) (by decide) | exact bytes_okI (by omega) (by omega) (by decide) | exact of_decide_eq_true (by assumption) | decide | exact slOk_lit | exact slOk_f | exact slOk_nil | assumption | exact .inl rfl | exact .inr rfl | (rename_i hg; exact hg) | (rename_i hg; exact eqf hg) | (rename_i hg; exact eqt hg) | (rename_i hg; change (_ : Bool) = true; rw [hg]; rfl) | (change (_ : Bool) = true; simp_all; done) | skip)
        refine AW_seq ?_
        refine AW_all good th22 (th22_ok) rfl rfl ?_ ?_
        · repeat' (first | exact trivial | exact rfl | exact (fun _ _ => rfl) | refine And.intro ?_ ?_ | intro _)
          all_goals (first | exact Nat.le_refl _ | exact item_ok | exact hrl | exact hlx | exact hxl | exact hal | omega | (unfold maxLen; omega) | exact bytes_ok (by omega) (by decide) | exact bytes_okI (by omega) (by omega) (by decide) | exact of_decide_eq_true (by assumption) | decide | exact slOk_lit | exact slOk_f | exact slOk_nil | assumption | exact .inl rfl | exact .inr rfl | (rename_i hg; exact hg) | (rename_i hg; exact eqf hg) | (rename_i hg; exact eqt hg) | (rename_i hg; change (_ : Bool) = true; rw [hg]; rfl) | (change (_ : Bool) = true; simp_all; done) | skip)
        refine AW_cond rfl (fun h2 => ?_) (fun h2 => ?_)
        · first
          | (exfalso; simp_all; done)
          | (
              have h20 : i < 15 := by
                have h : (i : Int) < 15 := of_decide_eq_true (by assumption)
                omega
              refine AW_all good th22 (th22_ok) rfl rfl ?_ ?_
              · repeat' (first | exact trivial | exact rfl | exact (fun _ _ => rfl) | refine And.intro ?_ ?_ | intro _)
                all_goals (first | exact Nat.le_refl _ | exact item_ok | exact hrl | exact hlx | exact hxl | exact hal | omega | (unfold maxLen; omega) | exact bytes_ok (by omega) (by decide) | exact bytes_okI (by omega) (by omega) (by decide) | exact of_decide_eq_true (by assumption) | decide | exact slOk_lit | exact slOk_f | exact slOk_nil | assumption | exact .inl rfl | exact .inr rfl | (rename_i hg; exact hg) | (rename_i hg; exact eqf hg) | (rename_i hg; exact eqt hg) | (rename_i hg; change (_ : Bool) = true; rw [hg]; rfl) | (change (_ : Bool) = true; simp_all; done) | skip)
              skip
              refine AW_all good th22 (th22_ok) rfl rfl ?_ ?_
              · repeat' (first | exact trivial | exact rfl | exact (fun _ _ => rfl) | refine And.intro ?_ ?_ | intro _)
                all_goals (first | exact Nat.le_refl _ | exact item_ok | exact hrl | exact hlx | exact hxl | exact hal | omega | (unfold maxLen; omega) | exact bytes_ok (by omega) (by decide) | exact bytes_okI (by omega) (by omega) (by decide) | exact of_decide_eq_true (by assumption) | decide | exact slOk_lit | exact slOk_f | exact slOk_nil | assumption | exact .inl rfl | exact .inr rfl | (rename_i hg; exact hg) | (rename_i hg; exact eqf hg) | (rename_i hg; exact eqt hg) | (rename_i hg; change (_ : Bool) = true; rw [hg]; rfl) | (change (_ : Bool) = true; simp_all; done) | skip)
              refine loopX_next ⟨i + 1, hlt⟩ [0] rfl rfl ⟨SLe.of_eq (congrArg (fun z => SV.cv (iint z)) (next_int i l.n hlt hml)), SLe.of_eq (congrArg (fun z => SV.cv (.one (.imm (slI itE z)))) (rowB_t h20).symm), trivial⟩ ⟨SLe.of_eq rfl, SLe.of_eq rfl, SLe.of_eq rfl, trivial⟩ trivial ⟨⟨rfl, _, _, rfl, rfl, BLe.of_eq rfl⟩, trivial⟩ ?_
              show l.n - (i + 1) < l.n - i
              omega
          )
        · first
          | (exfalso; simp_all; done)
          | (
              refine AW_skip ?_
              have h20 : 15 ≤ i := by
                have h : ¬ (i : Int) < 15 := of_decide_eq_false (by assumption)
                omega
              refine AW_all good th22 (th22_ok) rfl rfl ?_ ?_
              · repeat' (first | exact trivial | exact rfl | exact (fun _ _ => rfl) | refine And.intro ?_ ?_ | intro _)
                all_goals (first | exact Nat.le_refl _ | exact item_ok | exact hrl | exact hlx | exact hxl | exact hal | omega | (unfold maxLen; omega) | exact bytes_ok (by omega) (by decide) | exact bytes_okI (by omega) (by omega) (by decide) | exact of_decide_eq_true (by assumption) | decide | exact slOk_lit | exact slOk_f | exact slOk_nil | assumption | exact .inl rfl | exact .inr rfl | (rename_i hg; exact hg) | (rename_i hg; exact eqf hg) | (rename_i hg; exact eqt hg) | (rename_i hg; change (_ : Bool) = true; rw [hg]; rfl) | (change (_ : Bool) = true; simp_all; done) | skip)
              refine loopX_next ⟨i + 1, hlt⟩ [0] rfl rfl ⟨SLe.of_eq (congrArg (fun z => SV.cv (iint z)) (next_int i l.n hlt hml)), SLe.of_eq (congrArg (fun z => SV.cv (.one (.imm (slI itE z)))) (rowB_f h20).symm), trivial⟩ ⟨SLe.of_eq rfl, SLe.of_eq rfl, SLe.of_eq rfl, trivial⟩ trivial ⟨⟨rfl, _, _, rfl, rfl, BLe.of_eq rfl⟩, trivial⟩ ?_
              show l.n - (i + 1) < l.n - i
              omega
          )
    )
  · first
    | (exfalso; simp_all; done)
    | (
        refine AW_exit ?_
        refine AW_seq ?_
        have hend : i = l.n := by
          have h : ¬ (i : Int) < (l.n : Int) := of_decide_eq_false (by assumption)
          omega
        subst hend
        obtain ⟨X, hX⟩ : ∃ X, rowB 15 l l.n = X := ⟨_, rfl⟩
        have hXn : X.n ≤ 20 := by
          rw [← hX, rowB_n]
          omega
        have hlx : (0 : Int).toNat + X.n ≤ 300 := by
          show 0 + X.n ≤ 300
          omega
        have hxl : X.n ≤ 512 := by omega
        refine AW_slot 5 (y := .cv (.one (.imm (slI itE X)))) rfl (SLe.of_eq (by rw [← hX]; rfl)) ?_
        refine AW_all good th22 (th22_ok) rfl rfl ?_ ?_
        · repeat' (first | exact trivial | exact rfl | exact (fun _ _ => rfl) | refine And.intro ?_ ?_ | intro _)
          all_goals (first | exact Nat.le_refl _ | exact item_ok | exact hrl | exact hlx | exact hxl | exact hal | omega | (unfold maxLen; omega) | exact bytes_ok (by omega) (by decide) | exact bytes_okI (by omega) (by omega) (by decide) | exact of_decide_eq_true (by assumption) | decide | exact slOk_lit | exact slOk_f | exact slOk_nil | assumption | exact .inl rfl | exact .inr rfl | (rename_i hg; exact hg) | (rename_i hg; exact eqf hg) | (rename_i hg; exact eqt hg) | (rename_i hg; change (_ : Bool) = true; rw [hg]; rfl) | (change (_ : Bool) = true; simp_all; done) | skip)
        skip
        refine AW_blk 1 rfl (B := bkR 91 ndE ⟨300, fun _ => nd0⟩) (BLe.rows rfl fun i j hi hj => ILe.of_eq (zero_nd hj)) ?_
        refine AW_blk 2 rfl (B := .var 50 [.osl 1 16 0 0 300 false, .imm (.sl 1 0 true fun _ _ => ivDef)]) (BLe.var ⟨CLe.oslf, CLe.imm (ILe.sl rfl (fun _ => rfl) (.inl rfl)), trivial⟩) ?_
        refine AW_seq ?_
        refine AW_eff good th22 (th22_ok) eLay (eLay_ok) [] rfl rfl ?_ ?_
        · repeat' (first | exact trivial | exact rfl | exact (fun _ _ => rfl) | refine And.intro ?_ ?_ | intro _)
          all_goals (first | exact Nat.le_refl _ | exact item_ok | exact hrl | exact hlx | exact hxl | exact hal | omega | (unfold maxLen; omega) | exact bytes_ok (by omega) (by decide) | exact bytes_okI (by omega) (by omega) (by decide) | exact of_decide_eq_true (by assumption) | decide | exact slOk_lit | exact slOk_f | exact slOk_nil | assumption | exact .inl rfl | exact .inr rfl | (rename_i hg; exact hg) | (rename_i hg; exact eqf hg) | (rename_i hg; exact eqt hg) | (rename_i hg; change (_ : Bool) = true; rw [hg]; rfl) | (change (_ : Bool) = true; simp_all; done) | skip)
        obtain ⟨r, hr⟩ : ∃ r, layRf 0 X = r := ⟨_, rfl⟩
        refine AW_slot 9 (y := .cv (u64 r)) rfl (SLe.of_eq (by rw [← hr]; rfl)) ?_
        refine AW_blk 1 rfl (B := bkR 91 ndE (laidN ⟨300, fun _ => nd0⟩ 0 X X.n)) (BLe.of_eq rfl) ?_
        refine AW_seq ?_
        refine AW_seq ?_
        refine AW_all good th22 (th22_ok) rfl rfl ?_ ?_
        · repeat' (first | exact trivial | exact rfl | exact (fun _ _ => rfl) | refine And.intro ?_ ?_ | intro _)
          all_goals (first | exact Nat.le_refl _ | exact item_ok | exact hrl | exact hlx | exact hxl | exact hal | omega | (unfold maxLen; omega) | exact bytes_ok (by omega) (by decide) | exact bytes_okI (by omega) (by omega) (by decide) | exact of_decide_eq_true (by assumption) | decide | exact slOk_lit | exact slOk_f | exact slOk_nil | assumption | exact .inl rfl | exact .inr rfl | (rename_i hg; exact hg) | (rename_i hg; exact eqf hg) | (rename_i hg; exact eqt hg) | (rename_i hg; change (_ : Bool) = true; rw [hg]; rfl) | (change (_ : Bool) = true; simp_all; done) | skip)
        refine AW_block ?_
        refine AW_absent 3 1 (fun q _ => .val (.int .i64 (299 - (q : Int)))) ?_
        refine AW_blk 2 rfl (B := .var 50 [.osl 1 16 0 0 300 false, .osl 4 1 0 0 0 true]) (BLe.var ⟨CLe.refl _, CLe.empty, trivial⟩) ?_
        refine AW_loopX [3, 5, 8, 9] [0, 1] (fun j : { k : Nat // k ≤ 300 - X.n } => [(10, .cv (iint (299 - (j.1 : Int))))]) (fun j => [(2, .var 50 [.osl 1 16 0 0 300 false, .osl 4 1 0 0 j.1 true]), (4, bkR 3 intE ⟨j.1, fun q => 299 - (q : Int)⟩)]) (fun j => 300 - X.n - j.1) ⟨0, Nat.zero_le _⟩ ⟨SLe.of_eq rfl, trivial⟩ ⟨⟨_, rfl, BLe.of_eq rfl⟩, ⟨_, rfl, BLe.of_eq rfl⟩, trivial⟩ ?_
        rintro ⟨k, hk⟩
        dsimp only at hk ⊢
        refine AW_seq ?_
        refine AW_seq ?_
        refine AW_all good th22 (th22_ok) rfl rfl ?_ ?_
        · repeat' (first | exact trivial | exact rfl | exact (fun _ _ => rfl) | refine And.intro ?_ ?_ | intro _)
          all_goals (first | exact Nat.le_refl _ | exact item_ok | exact hrl | exact hlx | exact hxl | exact hal | omega | (unfold maxLen; omega) | exact bytes_ok (by omega) (by decide) | exact bytes_okI (by omega) (by omega) (by decide) | exact of_decide_eq_true (by assumption) | decide | exact slOk_lit | exact slOk_f | exact slOk_nil | assumption | exact .inl rfl | exact .inr rfl | (rename_i hg; exact hg) | (rename_i hg; exact eqf hg) | (rename_i hg; exact eqt hg) | (rename_i hg; change (_ : Bool) = true; rw [hg]; rfl) | (change (_ : Bool) = true; simp_all; done) | skip)
        refine AW_cond rfl (fun h3 => ?_) (fun h3 => ?_)
        · first
          | (exfalso; simp_all; done)
          | (
              refine AW_skip ?_
              refine AW_seq ?_
              refine AW_block ?_
              have hlt : k < 300 - X.n := by
                have h : (299 - (k : Int)) ≥ (X.n : Int) := of_decide_eq_true (by assumption)
                omega
              refine AW_all good th22 (th22_ok) rfl rfl ?_ ?_
              · repeat' (first | exact trivial | exact rfl | exact (fun _ _ => rfl) | refine And.intro ?_ ?_ | intro _)
                all_goals (first | exact Nat.le_refl _ | exact item_ok | exact hrl | exact hlx | exact hxl | exact hal | omega | (unfold maxLen; omega) | exact bytes_ok (by omega) (by decide) | exact bytes_okI (by omega) (by omega) (by decide) | exact of_decide_eq_true (by assumption) | decide | exact slOk_lit | exact slOk_f | exact slOk_nil | assumption | exact .inl rfl | exact .inr rfl | (rename_i hg; exact hg) | (rename_i hg; exact eqf hg) | (rename_i hg; exact eqt hg) | (rename_i hg; change (_ : Bool) = true; rw [hg]; rfl) | (change (_ : Bool) = true; simp_all; done) | skip)
              refine AW_all good th22 (th22_ok) rfl rfl ?_ ?_
              · repeat' (first | exact trivial | exact rfl | exact (fun _ _ => rfl) | refine And.intro ?_ ?_ | intro _)
                all_goals (first | exact Nat.le_refl _ | exact item_ok | exact hrl | exact hlx | exact hxl | exact hal | omega | (unfold maxLen; omega) | exact bytes_ok (by omega) (by decide) | exact bytes_okI (by omega) (by omega) (by decide) | exact of_decide_eq_true (by assumption) | decide | exact slOk_lit | exact slOk_f | exact slOk_nil | assumption | exact .inl rfl | exact .inr rfl | (rename_i hg; exact hg) | (rename_i hg; exact eqf hg) | (rename_i hg; exact eqt hg) | (rename_i hg; change (_ : Bool) = true; rw [hg]; rfl) | (change (_ : Bool) = true; simp_all; done) | skip)
              refine loopX_next ⟨k + 1, hlt⟩ [0, 1, 2, 3, 6] rfl rfl ⟨SLe.of_eq (congrArg (fun z => SV.cv (iint z)) ?_), trivial⟩ ⟨SLe.of_eq rfl, SLe.of_eq rfl, SLe.of_eq rfl, SLe.of_eq rfl, trivial⟩ ⟨⟨rfl, _, rfl, BLe.of_eq rfl⟩, ⟨rfl, _, rfl, BLe.rows rfl fun q j hq hj => ILe.of_eq ?_⟩, trivial⟩ ⟨⟨rfl, _, _, rfl, rfl, BLe.of_eq rfl⟩, ⟨rfl, _, _, rfl, rfl, BLe.of_eq rfl⟩, trivial⟩ ?_
              · show IntKind.i64.wrap (299 - (k : Int) - 1) = 299 - ((k + 1 : Nat) : Int)
                rw [IntKind.wrap_i64]
                omega
              · obtain rfl : j = 0 := by
                  have : j < 1 := hj
                  omega
                exact cnt_row9 hq
              show 300 - X.n - (k + 1) < 300 - X.n - k
              omega
          )
        · first
          | (exfalso; simp_all; done)
          | (
              refine AW_exit ?_
              refine AW_seq ?_
              have hend : k = 300 - X.n := by
                have h : ¬ (299 - (k : Int)) ≥ (X.n : Int) := of_decide_eq_false (by assumption)
                omega
              subst hend
              refine AW_giveV 1 2 0 rfl rfl rfl rfl ?_ ?_
              · exact Nat.le_of_eq (Nat.zero_add _)
              refine AW_giveV 4 2 1 rfl rfl rfl rfl ?_ ?_
              · exact Nat.le_of_eq (Nat.zero_add _)
              obtain ⟨A, hA⟩ : ∃ A, arL X = A := ⟨_, rfl⟩
              refine AW_blk 2 rfl (B := bkV 50 arE A) (BLe.of_eq (by rw [← hA]; rfl)) ?_
              refine AW_all good th22 (th22_ok) rfl rfl ?_ ?_
              · repeat' (first | exact trivial | exact rfl | exact (fun _ _ => rfl) | refine And.intro ?_ ?_ | intro _)
                all_goals (first | exact Nat.le_refl _ | exact item_ok | exact hrl | exact hlx | exact hxl | exact hal | omega | (unfold maxLen; omega) | exact bytes_ok (by omega) (by decide) | exact bytes_okI (by omega) (by omega) (by decide) | exact of_decide_eq_true (by assumption) | decide | exact slOk_lit | exact slOk_f | exact slOk_nil | assumption | exact .inl rfl | exact .inr rfl | (rename_i hg; exact hg) | (rename_i hg; exact eqf hg) | (rename_i hg; exact eqt hg) | (rename_i hg; change (_ : Bool) = true; rw [hg]; rfl) | (change (_ : Bool) = true; simp_all; done) | skip)
              obtain ⟨p, hp⟩ : ∃ p, insA A r x = p := ⟨_, rfl⟩
              refine AW_blk 5 rfl (B := bkV 50 arE p.1) (BLe.of_eq (by rw [← hp]; rfl)) ?_
              refine AW_slot 12 (y := .cv (u64 p.2.1)) rfl (SLe.of_eq (by rw [← hp]; rfl)) ?_
              refine AW_slot 13 (y := .cv (iint p.2.2)) rfl (SLe.of_eq (by rw [← hp]; rfl)) ?_
              refine AW_seq ?_
              refine AW_all good th22 (th22_ok) rfl rfl ?_ ?_
              · repeat' (first | exact trivial | exact rfl | exact (fun _ _ => rfl) | refine And.intro ?_ ?_ | intro _)
                all_goals (first | exact Nat.le_refl _ | exact item_ok | exact hrl | exact hlx | exact hxl | exact hal | omega | (unfold maxLen; omega) | exact bytes_ok (by omega) (by decide) | exact bytes_okI (by omega) (by omega) (by decide) | exact of_decide_eq_true (by assumption) | decide | exact slOk_lit | exact slOk_f | exact slOk_nil | assumption | exact .inl rfl | exact .inr rfl | (rename_i hg; exact hg) | (rename_i hg; exact eqf hg) | (rename_i hg; exact eqt hg) | (rename_i hg; change (_ : Bool) = true; rw [hg]; rfl) | (change (_ : Bool) = true; simp_all; done) | skip)
              obtain ⟨M, hM⟩ : ∃ M, itemsL p.1 p.2.1 = M := ⟨_, rfl⟩
              obtain ⟨f, hf⟩ : ∃ f, itemsE p.1 p.2.1 = f := ⟨_, rfl⟩
              refine AW_slot 14 (y := .cv (.one (.imm (slI itE M)))) rfl (SLe.of_eq (by rw [← hM]; rfl)) ?_
              refine AW_slot 15 (y := .cv (iint f)) rfl (SLe.of_eq (by rw [← hf]; rfl)) ?_
              refine AW_seq ?_
              refine AW_seq ?_
              refine AW_all good th22 (th22_ok) rfl rfl ?_ ?_
              · repeat' (first | exact trivial | exact rfl | exact (fun _ _ => rfl) | refine And.intro ?_ ?_ | intro _)
                all_goals (first | exact Nat.le_refl _ | exact item_ok | exact hrl | exact hlx | exact hxl | exact hal | omega | (unfold maxLen; omega) | exact bytes_ok (by omega) (by decide) | exact bytes_okI (by omega) (by omega) (by decide) | exact of_decide_eq_true (by assumption) | decide | exact slOk_lit | exact slOk_f | exact slOk_nil | assumption | exact .inl rfl | exact .inr rfl | (rename_i hg; exact hg) | (rename_i hg; exact eqf hg) | (rename_i hg; exact eqt hg) | (rename_i hg; change (_ : Bool) = true; rw [hg]; rfl) | (change (_ : Bool) = true; simp_all; done) | skip)
              refine AW_cond rfl (fun h4 => ?_) (fun h4 => ?_)
              · first
                | (exfalso; simp_all; done)
                | (
                    refine AW_seq ?_
                    refine AW_part good th22 (th22_ok) et0 (et0_ok _) [] rfl rfl ?_ ?_
                    · repeat' (first | exact trivial | exact rfl | exact (fun _ _ => rfl) | refine And.intro ?_ ?_ | intro _)
                      all_goals (first | exact Nat.le_refl _ | exact item_ok | exact hrl | exact hlx | exact hxl | exact hal | omega | (unfold maxLen; omega) | exact bytes_ok (by omega) (by decide) | exact bytes_okI (by omega) (by omega) (by decide) | exact of_decide_eq_true (by assumption) | decide | exact slOk_lit | exact slOk_f | exact slOk_nil | assumption | exact .inl rfl | exact .inr rfl | (rename_i hg; exact hg) | (rename_i hg; exact eqf hg) | (rename_i hg; exact eqt hg) | (rename_i hg; change (_ : Bool) = true; rw [hg]; rfl) | (change (_ : Bool) = true; simp_all; done) | skip)
                    refine AL_stepF good tab0 (tab0_ok _) [0] 0 12 [84, 82] rfl rfl rfl rfl rfl ?_ ?_
                    · repeat' (first | exact trivial | exact rfl | exact (fun _ _ => rfl) | refine And.intro ?_ ?_ | intro _)
                      all_goals (first | exact Nat.le_refl _ | exact item_ok | exact hrl | exact hlx | exact hxl | exact hal | omega | (unfold maxLen; omega) | exact bytes_ok (by omega) (by decide) | exact bytes_okI (by omega) (by omega) (by decide) | exact of_decide_eq_true (by assumption) | decide | exact slOk_lit | exact slOk_f | exact slOk_nil | assumption | exact .inl rfl | exact .inr rfl | (rename_i hg; exact hg) | (rename_i hg; exact eqf hg) | (rename_i hg; exact eqt hg) | (rename_i hg; change (_ : Bool) = true; rw [hg]; rfl) | (change (_ : Bool) = true; simp_all; done) | skip)
                    refine AL_part good th22 (th22_ok) et0 (et0_ok _) [] rfl rfl ?_ (AL_nil ?_)
                    · repeat' (first | exact trivial | exact rfl | exact (fun _ _ => rfl) | refine And.intro ?_ ?_ | intro _)
                      all_goals (first | exact Nat.le_refl _ | exact item_ok | exact hrl | exact hlx | exact hxl | exact hal | omega | (unfold maxLen; omega) | exact bytes_ok (by omega) (by decide) | exact bytes_okI (by omega) (by omega) (by decide) | exact of_decide_eq_true (by assumption) | decide | exact slOk_lit | exact slOk_f | exact slOk_nil | assumption | exact .inl rfl | exact .inr rfl | (rename_i hg; exact hg) | (rename_i hg; exact eqf hg) | (rename_i hg; exact eqt hg) | (rename_i hg; change (_ : Bool) = true; rw [hg]; rfl) | (change (_ : Bool) = true; simp_all; done) | skip)
                    refine AW_ret (bodyQ_ret rfl ?_ (Ends.le rfl ?_ ?_))
                    · repeat' (first | exact trivial | exact rfl | exact (fun _ _ => rfl) | refine And.intro ?_ ?_ | intro _)
                      all_goals (first | exact Nat.le_refl _ | exact item_ok | exact hrl | exact hlx | exact hxl | exact hal | omega | (unfold maxLen; omega) | exact bytes_ok (by omega) (by decide) | exact bytes_okI (by omega) (by omega) (by decide) | exact of_decide_eq_true (by assumption) | decide | exact slOk_lit | exact slOk_f | exact slOk_nil | assumption | exact .inl rfl | exact .inr rfl | (rename_i hg; exact hg) | (rename_i hg; exact eqf hg) | (rename_i hg; exact eqt hg) | (rename_i hg; change (_ : Bool) = true; rw [hg]; rfl) | (change (_ : Bool) = true; simp_all; done) | skip)
                    · repeat' (first | exact trivial | exact rfl | exact (fun _ _ => rfl) | refine And.intro ?_ ?_ | intro _)
                      all_goals (first | exact Nat.le_refl _ | exact item_ok | exact hrl | exact hlx | exact hxl | exact hal | omega | (unfold maxLen; omega) | exact bytes_ok (by omega) (by decide) | exact bytes_okI (by omega) (by omega) (by decide) | exact of_decide_eq_true (by assumption) | decide | exact slOk_lit | exact slOk_f | exact slOk_nil | assumption | exact .inl rfl | exact .inr rfl | (rename_i hg; exact hg) | (rename_i hg; exact eqf hg) | (rename_i hg; exact eqt hg) | (rename_i hg; change (_ : Bool) = true; rw [hg]; rfl) | (change (_ : Bool) = true; simp_all; done) | skip)
                    have h0 : ((X.n : Int) == 0) = true := by assumption
                    rw [hX]
                    unfold olderR
                    rw [h0, hA, hr, hp, hM, hf, ← same_one (x := x) (f := fun i => itE.g fun j => (itL x).getD (i * 2 + j) ivDef) rfl]
                    exact SLe.of_eq rfl
                )
              · first
                | (exfalso; simp_all; done)
                | (
                    refine AW_skip ?_
                    refine AW_seq ?_
                    refine AW_all good th22 (th22_ok) rfl rfl ?_ ?_
                    · repeat' (first | exact trivial | exact rfl | exact (fun _ _ => rfl) | refine And.intro ?_ ?_ | intro _)
                      all_goals (first | exact Nat.le_refl _ | exact item_ok | exact hrl | exact hlx | exact hxl | exact hal | omega | (unfold maxLen; omega) | exact bytes_ok (by omega) (by decide) | exact bytes_okI (by omega) (by omega) (by decide) | exact of_decide_eq_true (by assumption) | decide | exact slOk_lit | exact slOk_f | exact slOk_nil | assumption | exact .inl rfl | exact .inr rfl | (rename_i hg; exact hg) | (rename_i hg; exact eqf hg) | (rename_i hg; exact eqt hg) | (rename_i hg; change (_ : Bool) = true; rw [hg]; rfl) | (change (_ : Bool) = true; simp_all; done) | skip)
                    have hX0 : 0 < X.n := by
                      have h : ((X.n : Int) == 0) = false := by assumption
                      have : ¬ (X.n : Int) = 0 := by simpa using h
                      omega
                    obtain ⟨q, hq⟩ : ∃ q, popC p.1 r = q := ⟨_, rfl⟩
                    refine AW_blk 7 rfl (B := bkV 50 arE q.1) (BLe.of_eq (by rw [← hq]; rfl)) ?_
                    refine AW_slot 17 (y := .cv (u64 q.2.1)) rfl (SLe.of_eq (by rw [← hq]; rfl)) ?_
                    refine AW_slot 19 (y := .cv (iint q.2.2.1)) rfl (SLe.of_eq (by rw [← hq]; rfl)) ?_
                    refine AW_seq ?_
                    refine AW_all good th22 (th22_ok) rfl rfl ?_ ?_
                    · repeat' (first | exact trivial | exact rfl | exact (fun _ _ => rfl) | refine And.intro ?_ ?_ | intro _)
                      all_goals (first | exact Nat.le_refl _ | exact item_ok | exact hrl | exact hlx | exact hxl | exact hal | omega | (unfold maxLen; omega) | exact bytes_ok (by omega) (by decide) | exact bytes_okI (by omega) (by omega) (by decide) | exact of_decide_eq_true (by assumption) | decide | exact slOk_lit | exact slOk_f | exact slOk_nil | assumption | exact .inl rfl | exact .inr rfl | (rename_i hg; exact hg) | (rename_i hg; exact eqf hg) | (rename_i hg; exact eqt hg) | (rename_i hg; change (_ : Bool) = true; rw [hg]; rfl) | (change (_ : Bool) = true; simp_all; done) | skip)
                    obtain ⟨N, hN⟩ : ∃ N, itemsL q.1 q.2.1 = N := ⟨_, rfl⟩
                    obtain ⟨h, hh⟩ : ∃ h, itemsE q.1 q.2.1 = h := ⟨_, rfl⟩
                    refine AW_slot 20 (y := .cv (.one (.imm (slI itE N)))) rfl (SLe.of_eq (by rw [← hN]; rfl)) ?_
                    refine AW_slot 21 (y := .cv (iint h)) rfl (SLe.of_eq (by rw [← hh]; rfl)) ?_
                    refine AW_seq ?_
                    refine AW_all good th22 (th22_ok) rfl rfl ?_ ?_
                    · repeat' (first | exact trivial | exact rfl | exact (fun _ _ => rfl) | refine And.intro ?_ ?_ | intro _)
                      all_goals (first | exact Nat.le_refl _ | exact item_ok | exact hrl | exact hlx | exact hxl | exact hal | omega | (unfold maxLen; omega) | exact bytes_ok (by omega) (by decide) | exact bytes_okI (by omega) (by omega) (by decide) | exact of_decide_eq_true (by assumption) | decide | exact slOk_lit | exact slOk_f | exact slOk_nil | assumption | exact .inl rfl | exact .inr rfl | (rename_i hg; exact hg) | (rename_i hg; exact eqf hg) | (rename_i hg; exact eqt hg) | (rename_i hg; change (_ : Bool) = true; rw [hg]; rfl) | (change (_ : Bool) = true; simp_all; done) | skip)
                    obtain ⟨O, hO⟩ : ∃ O, itemsL q.1 r = O := ⟨_, rfl⟩
                    obtain ⟨i, hi⟩ : ∃ i, itemsE q.1 r = i := ⟨_, rfl⟩
                    refine AW_slot 22 (y := .cv (.one (.imm (slI itE O)))) rfl (SLe.of_eq (by rw [← hO]; rfl)) ?_
                    refine AW_slot 23 (y := .cv (iint i)) rfl (SLe.of_eq (by rw [← hi]; rfl)) ?_
                    refine AW_seq ?_
                    refine AW_all good th22 (th22_ok) rfl rfl ?_ ?_
                    · repeat' (first | exact trivial | exact rfl | exact (fun _ _ => rfl) | refine And.intro ?_ ?_ | intro _)
                      all_goals (first | exact Nat.le_refl _ | exact item_ok | exact hrl | exact hlx | exact hxl | exact hal | omega | (unfold maxLen; omega) | exact bytes_ok (by omega) (by decide) | exact bytes_okI (by omega) (by omega) (by decide) | exact of_decide_eq_true (by assumption) | decide | exact slOk_lit | exact slOk_f | exact slOk_nil | assumption | exact .inl rfl | exact .inr rfl | (rename_i hg; exact hg) | (rename_i hg; exact eqf hg) | (rename_i hg; exact eqt hg) | (rename_i hg; change (_ : Bool) = true; rw [hg]; rfl) | (change (_ : Bool) = true; simp_all; done) | skip)
                    obtain ⟨P, hP⟩ : ∃ P, itemsL q.1 p.2.1 = P := ⟨_, rfl⟩
                    obtain ⟨j, hj⟩ : ∃ j, itemsE q.1 p.2.1 = j := ⟨_, rfl⟩
                    refine AW_slot 24 (y := .cv (.one (.imm (slI itE P)))) rfl (SLe.of_eq (by rw [← hP]; rfl)) ?_
                    refine AW_slot 25 (y := .cv (iint j)) rfl (SLe.of_eq (by rw [← hj]; rfl)) ?_
                    refine AW_seq ?_
                    refine AW_all good th22 (th22_ok) rfl rfl ?_ ?_
                    · repeat' (first | exact trivial | exact rfl | exact (fun _ _ => rfl) | refine And.intro ?_ ?_ | intro _)
                      all_goals (first | exact Nat.le_refl _ | exact item_ok | exact hrl | exact hlx | exact hxl | exact hal | omega | (unfold maxLen; omega) | exact bytes_ok (by omega) (by decide) | exact bytes_okI (by omega) (by omega) (by decide) | exact of_decide_eq_true (by assumption) | decide | exact slOk_lit | exact slOk_f | exact slOk_nil | assumption | exact .inl rfl | exact .inr rfl | (rename_i hg; exact hg) | (rename_i hg; exact eqf hg) | (rename_i hg; exact eqt hg) | (rename_i hg; change (_ : Bool) = true; rw [hg]; rfl) | (change (_ : Bool) = true; simp_all; done) | skip)
                    refine AW_ret (bodyQ_ret rfl ?_ (Ends.le rfl ?_ ?_))
                    · repeat' (first | exact trivial | exact rfl | exact (fun _ _ => rfl) | refine And.intro ?_ ?_ | intro _)
                      all_goals (first | exact Nat.le_refl _ | exact item_ok | exact hrl | exact hlx | exact hxl | exact hal | omega | (unfold maxLen; omega) | exact bytes_ok (by omega) (by decide) | exact bytes_okI (by omega) (by omega) (by decide) | exact of_decide_eq_true (by assumption) | decide | exact slOk_lit | exact slOk_f | exact slOk_nil | assumption | exact .inl rfl | exact .inr rfl | (rename_i hg; exact hg) | (rename_i hg; exact eqf hg) | (rename_i hg; exact eqt hg) | (rename_i hg; change (_ : Bool) = true; rw [hg]; rfl) | (change (_ : Bool) = true; simp_all; done) | skip)
                    · repeat' (first | exact trivial | exact rfl | exact (fun _ _ => rfl) | refine And.intro ?_ ?_ | intro _)
                      all_goals (first | exact Nat.le_refl _ | exact item_ok | exact hrl | exact hlx | exact hxl | exact hal | omega | (unfold maxLen; omega) | exact bytes_ok (by omega) (by decide) | exact bytes_okI (by omega) (by omega) (by decide) | exact of_decide_eq_true (by assumption) | decide | exact slOk_lit | exact slOk_f | exact slOk_nil | assumption | exact .inl rfl | exact .inr rfl | (rename_i hg; exact hg) | (rename_i hg; exact eqf hg) | (rename_i hg; exact eqt hg) | (rename_i hg; change (_ : Bool) = true; rw [hg]; rfl) | (change (_ : Bool) = true; simp_all; done) | skip)
                    have h0 : ((X.n : Int) == 0) = false := by assumption
                    rw [hX]
                    unfold olderR
                    rw [h0, hA, hr, hp, hM, hf, hq, hN, hh, hO, hi, hP, hj]
                    exact SLe.of_eq rfl
                )
          )
    )

end Go.Proofs.Ytadgjhbhghhbgaa.Abs
