/- Rules and their parts: what the small functions come to. -/
import Derived.Test.YtgahbkbmolfpnaaGreatFsA
import Derived.Test.YtgahbkbmolfpnaaGreatSxMem
namespace Go.Proofs.YtgahbkbmolfpnaaGreat.Fs
open Go Go.RowKit Go.Proofs.YtgahbkbmolfpnaaGreat.Sx
set_option linter.unusedVariables false
set_option linter.unusedSimpArgs false
set_option maxRecDepth 10000
def careV (l : Int) : Int := IntKind.u32.wrap (4294967295 * 2 ^ min (32 - l).toNat 32)
def prefixCheck (a l : Int) : Int := if l < 0 then 20 else if l > 32 then 20 else if (bAndNot .u32 a (careV l) != 0) = true then 21 else 0
def spanCheck (lo hi : Int) : Int := if lo > hi then 30 else 0
def maskCheck (v c : Int) : Int := if (bAndNot .u8 v c != 0) = true then 40 else 0
theorem prefix_care_s (l : Int) {h : Hp} {K : Value → Hp → Prop} (h0 : 0 ≤ l) (h1 : l ≤ 32) (H : ∀ h', Ext h h' → K (.int .u32 (careV l)) h') : CallsH Tryz.prog 52 #[.int .i64 l] h K := by
  refine prefix_care_ok l ?_
  refine ⟨careV l, ?_, H h (Ext.refl h)⟩
  intro w
  rw [wrap_in (by omega) (by omega)]
  have hn : ¬ (32 - l < 0) := by omega
  simp only [binOp, Op.shift, hn, if_false]
  rfl
theorem prefix_Check_s (a l : Int) {h : Hp} {K : Value → Hp → Prop} (H : ∀ v h', Ext h h' → v = prefixCheck a l → K (.int .i64 v) h') : CallsH Tryz.prog 45 #[.agg #[.int .u32 a, .int .i64 l]] h K := by
  refine prefix_Check_ok a l ?_
  unfold prefix_Check
  repeat' (first
    | (refine prefix_care_s _ ?_ ?_ (fun _ _ => ?_))
    | (refine H _ _ (by first | first | assumption | exact Ext.refl _ | exact Ext.trans2 (by assumption) (by first | first | assumption | exact Ext.refl _ | exact Ext.trans2 (by assumption) (by first | first | assumption | exact Ext.refl _ | exact Ext.trans2 (by assumption) (by first | first | assumption | exact Ext.refl _ | exact Ext.trans2 (by assumption) (by first | first | assumption | exact Ext.refl _ | exact Ext.trans2 (by assumption) (by first | first | assumption | exact Ext.refl _ | exact Ext.trans2 (by assumption) (by first | first | assumption | exact Ext.refl _ | exact Ext.trans2 (by assumption) (by first | first | assumption | exact Ext.refl _ | exact Ext.trans2 (by assumption) (by first | first | assumption | exact Ext.refl _ | exact Ext.trans2 (by assumption) (by first | assumption | exact Ext.refl _)))))))))) ?_)
    | (refine newC_i fun _ _ _ _ _ => ?_)
    | (refine br_i (fun _ => ?_) (fun _ => ?_))
    | (refine And.intro rfl ?_)
    | (refine And.intro (ld (Cl.at_ (by first | assumption | exact Cl.ext2 (by assumption) (by first | assumption | exact Cl.ext2 (by assumption) (by first | assumption | exact Cl.ext2 (by assumption) (by first | assumption | exact Cl.ext2 (by assumption) (by first | assumption | exact Cl.ext2 (by assumption) (by first | assumption | exact Cl.ext2 (by assumption) (by first | assumption | exact Cl.ext2 (by assumption) (by first | assumption | exact Cl.ext2 (by assumption) (by first | assumption | exact Cl.ext2 (by assumption) (by assumption)))))))))) _ _ rfl) (by kernel_rfl)) ?_)
    | (refine And.intro (ld (Cl.head (by first | assumption | exact Cl.ext2 (by assumption) (by first | assumption | exact Cl.ext2 (by assumption) (by first | assumption | exact Cl.ext2 (by assumption) (by first | assumption | exact Cl.ext2 (by assumption) (by first | assumption | exact Cl.ext2 (by assumption) (by first | assumption | exact Cl.ext2 (by assumption) (by first | assumption | exact Cl.ext2 (by assumption) (by first | assumption | exact Cl.ext2 (by assumption) (by first | assumption | exact Cl.ext2 (by assumption) (by assumption))))))))))) (by kernel_rfl)) ?_)
    | (refine And.intro (ldS (by first | assumption | exact Cl.ext2 (by assumption) (by first | assumption | exact Cl.ext2 (by assumption) (by first | assumption | exact Cl.ext2 (by assumption) (by first | assumption | exact Cl.ext2 (by assumption) (by first | assumption | exact Cl.ext2 (by assumption) (by first | assumption | exact Cl.ext2 (by assumption) (by first | assumption | exact Cl.ext2 (by assumption) (by first | assumption | exact Cl.ext2 (by assumption) (by first | assumption | exact Cl.ext2 (by assumption) (by assumption)))))))))) (by kernel_rfl)) ?_)
    | (refine And.intro (ldS (Cl.sl (by first | assumption | exact Cl.ext2 (by assumption) (by first | assumption | exact Cl.ext2 (by assumption) (by first | assumption | exact Cl.ext2 (by assumption) (by first | assumption | exact Cl.ext2 (by assumption) (by first | assumption | exact Cl.ext2 (by assumption) (by first | assumption | exact Cl.ext2 (by assumption) (by first | assumption | exact Cl.ext2 (by assumption) (by first | assumption | exact Cl.ext2 (by assumption) (by first | assumption | exact Cl.ext2 (by assumption) (by assumption)))))))))) rfl) (by kernel_rfl)) ?_)
    | (apply Exists.intro))
  all_goals (simp_all [prefixCheck] <;> omega)
theorem sp_Check_s (a l : Int) {h : Hp} {K : Value → Hp → Prop} (H : ∀ v h', Ext h h' → v = spanCheck a l → K (.int .i64 v) h') : CallsH Tryz.prog 50 #[.agg #[.int .u16 a, .int .u16 l]] h K := by
  refine span_Check_ok a l ?_
  unfold span_Check
  repeat' (first
    | (refine H _ _ (by first | first | assumption | exact Ext.refl _ | exact Ext.trans2 (by assumption) (by first | first | assumption | exact Ext.refl _ | exact Ext.trans2 (by assumption) (by first | first | assumption | exact Ext.refl _ | exact Ext.trans2 (by assumption) (by first | first | assumption | exact Ext.refl _ | exact Ext.trans2 (by assumption) (by first | first | assumption | exact Ext.refl _ | exact Ext.trans2 (by assumption) (by first | first | assumption | exact Ext.refl _ | exact Ext.trans2 (by assumption) (by first | first | assumption | exact Ext.refl _ | exact Ext.trans2 (by assumption) (by first | first | assumption | exact Ext.refl _ | exact Ext.trans2 (by assumption) (by first | first | assumption | exact Ext.refl _ | exact Ext.trans2 (by assumption) (by first | assumption | exact Ext.refl _)))))))))) ?_)
    | (refine newC_i fun _ _ _ _ _ => ?_)
    | (refine br_i (fun _ => ?_) (fun _ => ?_))
    | (refine And.intro rfl ?_)
    | (refine And.intro (ld (Cl.at_ (by first | assumption | exact Cl.ext2 (by assumption) (by first | assumption | exact Cl.ext2 (by assumption) (by first | assumption | exact Cl.ext2 (by assumption) (by first | assumption | exact Cl.ext2 (by assumption) (by first | assumption | exact Cl.ext2 (by assumption) (by first | assumption | exact Cl.ext2 (by assumption) (by first | assumption | exact Cl.ext2 (by assumption) (by first | assumption | exact Cl.ext2 (by assumption) (by first | assumption | exact Cl.ext2 (by assumption) (by assumption)))))))))) _ _ rfl) (by kernel_rfl)) ?_)
    | (refine And.intro (ld (Cl.head (by first | assumption | exact Cl.ext2 (by assumption) (by first | assumption | exact Cl.ext2 (by assumption) (by first | assumption | exact Cl.ext2 (by assumption) (by first | assumption | exact Cl.ext2 (by assumption) (by first | assumption | exact Cl.ext2 (by assumption) (by first | assumption | exact Cl.ext2 (by assumption) (by first | assumption | exact Cl.ext2 (by assumption) (by first | assumption | exact Cl.ext2 (by assumption) (by first | assumption | exact Cl.ext2 (by assumption) (by assumption))))))))))) (by kernel_rfl)) ?_)
    | (refine And.intro (ldS (by first | assumption | exact Cl.ext2 (by assumption) (by first | assumption | exact Cl.ext2 (by assumption) (by first | assumption | exact Cl.ext2 (by assumption) (by first | assumption | exact Cl.ext2 (by assumption) (by first | assumption | exact Cl.ext2 (by assumption) (by first | assumption | exact Cl.ext2 (by assumption) (by first | assumption | exact Cl.ext2 (by assumption) (by first | assumption | exact Cl.ext2 (by assumption) (by first | assumption | exact Cl.ext2 (by assumption) (by assumption)))))))))) (by kernel_rfl)) ?_)
    | (refine And.intro (ldS (Cl.sl (by first | assumption | exact Cl.ext2 (by assumption) (by first | assumption | exact Cl.ext2 (by assumption) (by first | assumption | exact Cl.ext2 (by assumption) (by first | assumption | exact Cl.ext2 (by assumption) (by first | assumption | exact Cl.ext2 (by assumption) (by first | assumption | exact Cl.ext2 (by assumption) (by first | assumption | exact Cl.ext2 (by assumption) (by first | assumption | exact Cl.ext2 (by assumption) (by first | assumption | exact Cl.ext2 (by assumption) (by assumption)))))))))) rfl) (by kernel_rfl)) ?_)
    | (apply Exists.intro))
  all_goals (simp_all [spanCheck] <;> omega)
theorem mask_Check_s (a l : Int) {h : Hp} {K : Value → Hp → Prop} (H : ∀ v h', Ext h h' → v = maskCheck a l → K (.int .i64 v) h') : CallsH Tryz.prog 51 #[.agg #[.int .u8 a, .int .u8 l]] h K := by
  refine mask_Check_ok a l ?_
  unfold mask_Check
  repeat' (first
    | (refine H _ _ (by first | first | assumption | exact Ext.refl _ | exact Ext.trans2 (by assumption) (by first | first | assumption | exact Ext.refl _ | exact Ext.trans2 (by assumption) (by first | first | assumption | exact Ext.refl _ | exact Ext.trans2 (by assumption) (by first | first | assumption | exact Ext.refl _ | exact Ext.trans2 (by assumption) (by first | first | assumption | exact Ext.refl _ | exact Ext.trans2 (by assumption) (by first | first | assumption | exact Ext.refl _ | exact Ext.trans2 (by assumption) (by first | first | assumption | exact Ext.refl _ | exact Ext.trans2 (by assumption) (by first | first | assumption | exact Ext.refl _ | exact Ext.trans2 (by assumption) (by first | first | assumption | exact Ext.refl _ | exact Ext.trans2 (by assumption) (by first | assumption | exact Ext.refl _)))))))))) ?_)
    | (refine newC_i fun _ _ _ _ _ => ?_)
    | (refine br_i (fun _ => ?_) (fun _ => ?_))
    | (refine And.intro rfl ?_)
    | (refine And.intro (ld (Cl.at_ (by first | assumption | exact Cl.ext2 (by assumption) (by first | assumption | exact Cl.ext2 (by assumption) (by first | assumption | exact Cl.ext2 (by assumption) (by first | assumption | exact Cl.ext2 (by assumption) (by first | assumption | exact Cl.ext2 (by assumption) (by first | assumption | exact Cl.ext2 (by assumption) (by first | assumption | exact Cl.ext2 (by assumption) (by first | assumption | exact Cl.ext2 (by assumption) (by first | assumption | exact Cl.ext2 (by assumption) (by assumption)))))))))) _ _ rfl) (by kernel_rfl)) ?_)
    | (refine And.intro (ld (Cl.head (by first | assumption | exact Cl.ext2 (by assumption) (by first | assumption | exact Cl.ext2 (by assumption) (by first | assumption | exact Cl.ext2 (by assumption) (by first | assumption | exact Cl.ext2 (by assumption) (by first | assumption | exact Cl.ext2 (by assumption) (by first | assumption | exact Cl.ext2 (by assumption) (by first | assumption | exact Cl.ext2 (by assumption) (by first | assumption | exact Cl.ext2 (by assumption) (by first | assumption | exact Cl.ext2 (by assumption) (by assumption))))))))))) (by kernel_rfl)) ?_)
    | (refine And.intro (ldS (by first | assumption | exact Cl.ext2 (by assumption) (by first | assumption | exact Cl.ext2 (by assumption) (by first | assumption | exact Cl.ext2 (by assumption) (by first | assumption | exact Cl.ext2 (by assumption) (by first | assumption | exact Cl.ext2 (by assumption) (by first | assumption | exact Cl.ext2 (by assumption) (by first | assumption | exact Cl.ext2 (by assumption) (by first | assumption | exact Cl.ext2 (by assumption) (by first | assumption | exact Cl.ext2 (by assumption) (by assumption)))))))))) (by kernel_rfl)) ?_)
    | (refine And.intro (ldS (Cl.sl (by first | assumption | exact Cl.ext2 (by assumption) (by first | assumption | exact Cl.ext2 (by assumption) (by first | assumption | exact Cl.ext2 (by assumption) (by first | assumption | exact Cl.ext2 (by assumption) (by first | assumption | exact Cl.ext2 (by assumption) (by first | assumption | exact Cl.ext2 (by assumption) (by first | assumption | exact Cl.ext2 (by assumption) (by first | assumption | exact Cl.ext2 (by assumption) (by first | assumption | exact Cl.ext2 (by assumption) (by assumption)))))))))) rfl) (by kernel_rfl)) ?_)
    | (apply Exists.intro))
  all_goals (simp_all [maskCheck])
def prefixHas (a l x : Int) : Bool := prefixCheck a l == 0 && bAnd .u32 x (careV l) == a
def spanHas (lo hi x : Int) : Bool := decide (x ≥ lo) && decide (x ≤ hi)
def maskHas (v c x : Int) : Bool := bAnd .u8 x c == v
theorem prefixCheck_len {a l : Int} (h : prefixCheck a l = 0) : 0 ≤ l ∧ l ≤ 32 := by
  unfold prefixCheck at h
  split at h
  · cases h
  · split at h
    · cases h
    · omega
theorem prefix_Has_s (a l x : Int) {h : Hp} {K : Value → Hp → Prop} (H : ∀ v h', Ext h h' → v = prefixHas a l x → K (.bool v) h') : CallsH Tryz.prog 32 #[.agg #[.int .u32 a, .int .i64 l], .int .u32 x] h K := by
  refine prefix_Has_ok a l x ?_
  unfold prefix_Has
  repeat' (first
    | (refine prefix_Check_s _ _ (fun _ _ _ _ => ?_))
    | (refine prefix_care_s _ ?_ ?_ (fun _ _ => ?_))
    | (refine H _ _ (by first | first | assumption | exact Ext.refl _ | exact Ext.trans2 (by assumption) (by first | first | assumption | exact Ext.refl _ | exact Ext.trans2 (by assumption) (by first | first | assumption | exact Ext.refl _ | exact Ext.trans2 (by assumption) (by first | first | assumption | exact Ext.refl _ | exact Ext.trans2 (by assumption) (by first | first | assumption | exact Ext.refl _ | exact Ext.trans2 (by assumption) (by first | first | assumption | exact Ext.refl _ | exact Ext.trans2 (by assumption) (by first | first | assumption | exact Ext.refl _ | exact Ext.trans2 (by assumption) (by first | first | assumption | exact Ext.refl _ | exact Ext.trans2 (by assumption) (by first | first | assumption | exact Ext.refl _ | exact Ext.trans2 (by assumption) (by first | assumption | exact Ext.refl _)))))))))) ?_)
    | (refine newC_i fun _ _ _ _ _ => ?_)
    | (refine br_i (fun _ => ?_) (fun _ => ?_))
    | (refine And.intro rfl ?_)
    | (refine And.intro (ld (Cl.at_ (by first | assumption | exact Cl.ext2 (by assumption) (by first | assumption | exact Cl.ext2 (by assumption) (by first | assumption | exact Cl.ext2 (by assumption) (by first | assumption | exact Cl.ext2 (by assumption) (by first | assumption | exact Cl.ext2 (by assumption) (by first | assumption | exact Cl.ext2 (by assumption) (by first | assumption | exact Cl.ext2 (by assumption) (by first | assumption | exact Cl.ext2 (by assumption) (by first | assumption | exact Cl.ext2 (by assumption) (by assumption)))))))))) _ _ rfl) (by kernel_rfl)) ?_)
    | (refine And.intro (ld (Cl.head (by first | assumption | exact Cl.ext2 (by assumption) (by first | assumption | exact Cl.ext2 (by assumption) (by first | assumption | exact Cl.ext2 (by assumption) (by first | assumption | exact Cl.ext2 (by assumption) (by first | assumption | exact Cl.ext2 (by assumption) (by first | assumption | exact Cl.ext2 (by assumption) (by first | assumption | exact Cl.ext2 (by assumption) (by first | assumption | exact Cl.ext2 (by assumption) (by first | assumption | exact Cl.ext2 (by assumption) (by assumption))))))))))) (by kernel_rfl)) ?_)
    | (refine And.intro (ldS (by first | assumption | exact Cl.ext2 (by assumption) (by first | assumption | exact Cl.ext2 (by assumption) (by first | assumption | exact Cl.ext2 (by assumption) (by first | assumption | exact Cl.ext2 (by assumption) (by first | assumption | exact Cl.ext2 (by assumption) (by first | assumption | exact Cl.ext2 (by assumption) (by first | assumption | exact Cl.ext2 (by assumption) (by first | assumption | exact Cl.ext2 (by assumption) (by first | assumption | exact Cl.ext2 (by assumption) (by assumption)))))))))) (by kernel_rfl)) ?_)
    | (refine And.intro (ldS (Cl.sl (by first | assumption | exact Cl.ext2 (by assumption) (by first | assumption | exact Cl.ext2 (by assumption) (by first | assumption | exact Cl.ext2 (by assumption) (by first | assumption | exact Cl.ext2 (by assumption) (by first | assumption | exact Cl.ext2 (by assumption) (by first | assumption | exact Cl.ext2 (by assumption) (by first | assumption | exact Cl.ext2 (by assumption) (by first | assumption | exact Cl.ext2 (by assumption) (by first | assumption | exact Cl.ext2 (by assumption) (by assumption)))))))))) rfl) (by kernel_rfl)) ?_)
    | (apply Exists.intro))
  all_goals (simp_all [prefixHas])
  all_goals (rename_i hp; have := prefixCheck_len hp; omega)
theorem sp_Has_s (a l x : Int) {h : Hp} {K : Value → Hp → Prop} (H : ∀ v h', Ext h h' → v = spanHas a l x → K (.bool v) h') : CallsH Tryz.prog 39 #[.agg #[.int .u16 a, .int .u16 l], .int .u16 x] h K := by
  refine span_Has_ok a l x ?_
  unfold span_Has
  repeat' (first
    | (refine H _ _ (by first | first | assumption | exact Ext.refl _ | exact Ext.trans2 (by assumption) (by first | first | assumption | exact Ext.refl _ | exact Ext.trans2 (by assumption) (by first | first | assumption | exact Ext.refl _ | exact Ext.trans2 (by assumption) (by first | first | assumption | exact Ext.refl _ | exact Ext.trans2 (by assumption) (by first | first | assumption | exact Ext.refl _ | exact Ext.trans2 (by assumption) (by first | first | assumption | exact Ext.refl _ | exact Ext.trans2 (by assumption) (by first | first | assumption | exact Ext.refl _ | exact Ext.trans2 (by assumption) (by first | first | assumption | exact Ext.refl _ | exact Ext.trans2 (by assumption) (by first | first | assumption | exact Ext.refl _ | exact Ext.trans2 (by assumption) (by first | assumption | exact Ext.refl _)))))))))) ?_)
    | (refine newC_i fun _ _ _ _ _ => ?_)
    | (refine br_i (fun _ => ?_) (fun _ => ?_))
    | (refine And.intro rfl ?_)
    | (refine And.intro (ld (Cl.at_ (by first | assumption | exact Cl.ext2 (by assumption) (by first | assumption | exact Cl.ext2 (by assumption) (by first | assumption | exact Cl.ext2 (by assumption) (by first | assumption | exact Cl.ext2 (by assumption) (by first | assumption | exact Cl.ext2 (by assumption) (by first | assumption | exact Cl.ext2 (by assumption) (by first | assumption | exact Cl.ext2 (by assumption) (by first | assumption | exact Cl.ext2 (by assumption) (by first | assumption | exact Cl.ext2 (by assumption) (by assumption)))))))))) _ _ rfl) (by kernel_rfl)) ?_)
    | (refine And.intro (ld (Cl.head (by first | assumption | exact Cl.ext2 (by assumption) (by first | assumption | exact Cl.ext2 (by assumption) (by first | assumption | exact Cl.ext2 (by assumption) (by first | assumption | exact Cl.ext2 (by assumption) (by first | assumption | exact Cl.ext2 (by assumption) (by first | assumption | exact Cl.ext2 (by assumption) (by first | assumption | exact Cl.ext2 (by assumption) (by first | assumption | exact Cl.ext2 (by assumption) (by first | assumption | exact Cl.ext2 (by assumption) (by assumption))))))))))) (by kernel_rfl)) ?_)
    | (refine And.intro (ldS (by first | assumption | exact Cl.ext2 (by assumption) (by first | assumption | exact Cl.ext2 (by assumption) (by first | assumption | exact Cl.ext2 (by assumption) (by first | assumption | exact Cl.ext2 (by assumption) (by first | assumption | exact Cl.ext2 (by assumption) (by first | assumption | exact Cl.ext2 (by assumption) (by first | assumption | exact Cl.ext2 (by assumption) (by first | assumption | exact Cl.ext2 (by assumption) (by first | assumption | exact Cl.ext2 (by assumption) (by assumption)))))))))) (by kernel_rfl)) ?_)
    | (refine And.intro (ldS (Cl.sl (by first | assumption | exact Cl.ext2 (by assumption) (by first | assumption | exact Cl.ext2 (by assumption) (by first | assumption | exact Cl.ext2 (by assumption) (by first | assumption | exact Cl.ext2 (by assumption) (by first | assumption | exact Cl.ext2 (by assumption) (by first | assumption | exact Cl.ext2 (by assumption) (by first | assumption | exact Cl.ext2 (by assumption) (by first | assumption | exact Cl.ext2 (by assumption) (by first | assumption | exact Cl.ext2 (by assumption) (by assumption)))))))))) rfl) (by kernel_rfl)) ?_)
    | (apply Exists.intro))
  all_goals (simp_all [spanHas])
  all_goals omega
/-- A rule. -/
structure Rul where
  id : Int
  sA : Int
  sL : Int
  dA : Int
  dL : Int
  s0 : Int
  s1 : Int
  d0 : Int
  d1 : Int
  pV : Int
  pC : Int
  act : Int
  deriving DecidableEq
def Rul.enc (r : Rul) : List Value := [.int .i64 r.id, .int .u32 r.sA, .int .i64 r.sL, .int .u32 r.dA, .int .i64 r.dL, .int .u16 r.s0, .int .u16 r.s1, .int .u16 r.d0, .int .u16 r.d1, .int .u8 r.pV, .int .u8 r.pC, .int .i64 r.act]
def Rul.val (r : Rul) : Value := .agg #[.int .i64 r.id, .int .u32 r.sA, .int .i64 r.sL, .int .u32 r.dA, .int .i64 r.dL, .int .u16 r.s0, .int .u16 r.s1, .int .u16 r.d0, .int .u16 r.d1, .int .u8 r.pV, .int .u8 r.pC, .int .i64 r.act]
theorem Rul.enc_len (r : Rul) : r.enc.length = 12 := rfl
def Rul.parts (r : Rul) : List Int := [prefixCheck r.sA r.sL, prefixCheck r.dA r.dL, spanCheck r.s0 r.s1, spanCheck r.d0 r.d1, maskCheck r.pV r.pC]
def firstBad : List Int → Int → Option (Int × Int)
  | [], _ => none
  | e :: es, i => if e ≠ 0 then some (e, i + 2) else firstBad es (i + 1)
def Rul.act0 (r : Rul) : Int × Int := if r.act = 1 ∨ r.act = 2 ∨ r.act = 3 ∨ r.act = 4 then (0, 0) else (81, 7)
def Rul.check2 (r : Rul) : Int × Int := (firstBad r.parts 0).getD r.act0
def Rul.check (r : Rul) : Int × Int := if r.id < 1 ∨ r.id > 999999 then (80, 1) else r.check2
theorem check_l3 (a89 : Addr) (K0 : Int → Int → Hp → Prop) (K1 : Addr → Hp → Prop) (h : Hp) (x0 x1 x2 x3 x4 : Int) (r : Option (Int × Int))
    (H0 : ∀ e i, r = some (e, i) → K0 e i h) (H1 : r = none → K1 a89 h) : ∀ (n k : Nat), n ≤ 5 → 5 - n < k → r = firstBad ([x0, x1, x2, x3, x4].drop n) n → rule_Check_l3 a89 x0 x1 x2 x3 x4 K0 K1 k n h := by
  intro n k
  induction k generalizing n with
  | zero => intro _ h; omega
  | succ k ih =>
    intro hn hk hr
    unfold rule_Check_l3
    refine br_i (fun c => ?_) (fun c => ?_)
    · have hlt : n < 5 := by simp at c; omega
      have hget : ∃ x, [x0, x1, x2, x3, x4][n]? = some x := ⟨[x0, x1, x2, x3, x4][n]'(by simpa using hlt), by simp [hlt]⟩
      obtain ⟨x, hx⟩ := hget
      refine ⟨x, ?_, ?_⟩
      · intro w
        have : n = 0 ∨ n = 1 ∨ n = 2 ∨ n = 3 ∨ n = 4 := by omega
        rcases this with rfl | rfl | rfl | rfl | rfl <;> simp at hx <;> subst hx <;> exact pureRun_run Tryz.prog _ _ (by kernel_rfl) w
      · have hd : [x0, x1, x2, x3, x4].drop n = x :: [x0, x1, x2, x3, x4].drop (n + 1) := by
          rw [List.drop_eq_getElem_cons (by simpa using hlt)]
          congr 1
          rw [List.getElem?_eq_getElem (by simpa using hlt)] at hx
          exact Option.some.inj hx
        rw [hd] at hr
        refine br_i (fun c => ?_) (fun c => ?_)
        · rw [wrap_in (by omega) (by omega)]
          refine H0 _ _ ?_
          rw [hr, firstBad, if_pos (by simpa using c)]
        · rw [wrap_in (by omega) (by omega)]
          have : x = 0 := by simpa using c
          rw [firstBad, if_neg (by simp [this])] at hr
          exact ih (n + 1) (by omega) (by omega) (by rw [hr]; simp)
    · have hn5 : n = 5 := by simp at c; omega
      subst hn5
      exact H1 (by rw [hr]; rfl)
theorem rule_Check_s (r : Rul) {h : Hp} {K : Value → Hp → Prop} (H : ∀ e i h', Ext h h' → (e, i) = r.check → K (.tuple #[.int .i64 e, .int .i64 i]) h') : CallsH Tryz.prog 31 #[r.val] h K := by
  refine rule_Check_ok _ _ _ _ _ _ _ _ _ _ _ _ ?_
  unfold rule_Check rule_Check_j2
  repeat' (first
    | (refine prefix_Check_s _ _ (fun _ _ _ _ => ?_))
    | (refine sp_Check_s _ _ (fun _ _ _ _ => ?_))
    | (refine mask_Check_s _ _ (fun _ _ _ _ => ?_))
    | (refine H _ _ _ (by first | first | assumption | exact Ext.refl _ | exact Ext.trans2 (by assumption) (by first | first | assumption | exact Ext.refl _ | exact Ext.trans2 (by assumption) (by first | first | assumption | exact Ext.refl _ | exact Ext.trans2 (by assumption) (by first | first | assumption | exact Ext.refl _ | exact Ext.trans2 (by assumption) (by first | first | assumption | exact Ext.refl _ | exact Ext.trans2 (by assumption) (by first | first | assumption | exact Ext.refl _ | exact Ext.trans2 (by assumption) (by first | first | assumption | exact Ext.refl _ | exact Ext.trans2 (by assumption) (by first | first | assumption | exact Ext.refl _ | exact Ext.trans2 (by assumption) (by first | first | assumption | exact Ext.refl _ | exact Ext.trans2 (by assumption) (by first | assumption | exact Ext.refl _)))))))))) ?_)
    | (refine check_l3 _ _ _ _ _ _ _ _ _ (firstBad r.parts 0) ?_ ?_ 0 6 (by omega) (by omega) ?_)
    | (intro _ _ _)
    | (intro _)
    | (refine newC_i fun _ _ _ _ _ => ?_)
    | (refine br_i (fun _ => ?_) (fun _ => ?_))
    | (refine And.intro rfl ?_)
    | (refine And.intro (ld (Cl.at_ (by first | assumption | exact Cl.ext2 (by assumption) (by first | assumption | exact Cl.ext2 (by assumption) (by first | assumption | exact Cl.ext2 (by assumption) (by first | assumption | exact Cl.ext2 (by assumption) (by first | assumption | exact Cl.ext2 (by assumption) (by first | assumption | exact Cl.ext2 (by assumption) (by first | assumption | exact Cl.ext2 (by assumption) (by first | assumption | exact Cl.ext2 (by assumption) (by first | assumption | exact Cl.ext2 (by assumption) (by assumption)))))))))) _ _ rfl) (by kernel_rfl)) ?_)
    | (refine And.intro (ld (Cl.head (by first | assumption | exact Cl.ext2 (by assumption) (by first | assumption | exact Cl.ext2 (by assumption) (by first | assumption | exact Cl.ext2 (by assumption) (by first | assumption | exact Cl.ext2 (by assumption) (by first | assumption | exact Cl.ext2 (by assumption) (by first | assumption | exact Cl.ext2 (by assumption) (by first | assumption | exact Cl.ext2 (by assumption) (by first | assumption | exact Cl.ext2 (by assumption) (by first | assumption | exact Cl.ext2 (by assumption) (by assumption))))))))))) (by kernel_rfl)) ?_)
    | (refine And.intro (ldS (by first | assumption | exact Cl.ext2 (by assumption) (by first | assumption | exact Cl.ext2 (by assumption) (by first | assumption | exact Cl.ext2 (by assumption) (by first | assumption | exact Cl.ext2 (by assumption) (by first | assumption | exact Cl.ext2 (by assumption) (by first | assumption | exact Cl.ext2 (by assumption) (by first | assumption | exact Cl.ext2 (by assumption) (by first | assumption | exact Cl.ext2 (by assumption) (by first | assumption | exact Cl.ext2 (by assumption) (by assumption)))))))))) (by kernel_rfl)) ?_)
    | (refine And.intro (ldS (Cl.sl (by first | assumption | exact Cl.ext2 (by assumption) (by first | assumption | exact Cl.ext2 (by assumption) (by first | assumption | exact Cl.ext2 (by assumption) (by first | assumption | exact Cl.ext2 (by assumption) (by first | assumption | exact Cl.ext2 (by assumption) (by first | assumption | exact Cl.ext2 (by assumption) (by first | assumption | exact Cl.ext2 (by assumption) (by first | assumption | exact Cl.ext2 (by assumption) (by first | assumption | exact Cl.ext2 (by assumption) (by assumption)))))))))) rfl) (by kernel_rfl)) ?_)
    | (apply Exists.intro))
  all_goals (simp_all [Rul.check, Rul.check2, Rul.act0, Rul.parts])
  all_goals (intro hc; omega)
/-- A header. -/
structure Hdr where
  src : Int
  dst : Int
  sp : Int
  dp : Int
  pr : Int
  deriving DecidableEq
def Hdr.val (g : Hdr) : Value := .agg #[.int .u32 g.src, .int .u32 g.dst, .int .u16 g.sp, .int .u16 g.dp, .int .u8 g.pr]
def Hdr.enc (g : Hdr) : List Value := [.int .u32 g.src, .int .u32 g.dst, .int .u16 g.sp, .int .u16 g.dp, .int .u8 g.pr]
def Rul.has (r : Rul) (g : Hdr) : Bool := (r.check.1 == 0) && prefixHas r.sA r.sL g.src && prefixHas r.dA r.dL g.dst && spanHas r.s0 r.s1 g.sp && spanHas r.d0 r.d1 g.dp && maskHas r.pV r.pC g.pr
end Go.Proofs.YtgahbkbmolfpnaaGreat.Fs
