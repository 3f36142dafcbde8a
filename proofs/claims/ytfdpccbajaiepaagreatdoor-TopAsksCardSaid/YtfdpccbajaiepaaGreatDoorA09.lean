/-
The tied card of TopAsks: the row's statement, and what it lists tied to the program's text.
Conditions: none beyond the statement's own.
-/
import Derived.Test.YtfdpccbajaiepaaGreatDoorA07
import Derived.Test.YtfdpccbajaiepaaGreatDoorA04
import Derived.Test.YtfdpccbajaiepaaGreatDoorA08
import Derived.Test.YtfdpccbajaiepaaGreatDoorA03
import Derived.ProofKit
import Derived.OpenShut
import Derived.Deep.Slices
import Derived.SizedLaws
import Derived.Test.YtfdpccbajaiepaaGreatDoorRows
import Derived.Stop.LaidErr
import Derived.LaidHandle
import Derived.WalkKit
import Derived.ShutString
import Derived.ChangeOld
import Derived.Below
import Derived.LaidLaws
import Derived.Stop.Joined
import Derived.Test.YtfdpccbajaiepaaGreatDoorTie
import Derived.Test.YtfdpccbajaiepaaGreatDoorCards
import Derived.SevenTiedAt
/- The table's functions, by names: what each leaves. (Began as wip/table/XTSpec2 to 4.) -/
namespace Go.Proofs.YtfdpccbajaiepaaGreatDoor.Fs
open Go Go.RowKit Go.Proofs.YtfdpccbajaiepaaGreatDoor.Sx Go.Proofs.YtfdpccbajaiepaaGreatDoor.Sxp.Fx
set_option linter.unusedVariables false
set_option linter.unusedSimpArgs false
set_option maxRecDepth 10000
theorem table_in_s (n a b : Int) {h : Hp} {K : Value → Hp → Prop} (H : K (.bool (decide (n ≥ a) && decide (n ≤ b))) h) : CallsH Tryz.prog 63 #[.int .i64 n, .int .i64 a, .int .i64 b] h K := by
  refine table_in_ok n a b ?_
  unfold table_in
  refine br_i (fun e => ?_) (fun e => ?_)
  · rw [e] at H; simpa using H
  · rw [e] at H; simpa using H
def findI (xs : List Rul) (id : Int) : Int := match xs.findIdx? (fun r => r.id == id) with
  | some i => i
  | none => -1
theorem info55 : ∃ i z, Tryz.prog.info? 75 = some i ∧ i.size = 12 ∧ i.bytes = 64 ∧ i.zero = some z ∧ z.cells = #[.int .i64 0, .int .u32 0, .int .i64 0, .int .u32 0, .int .i64 0, .int .u16 0, .int .u16 0, .int .u16 0, .int .u16 0, .int .u8 0, .int .u8 0, .int .i64 0] :=
  ⟨_, _, rfl, rfl, rfl, rfl, rfl⟩
theorem size55 : (Tryz.prog.info? 75).map (·.size) = some 12 := by kernel_rfl
theorem und32 : Tryz.prog.underlying 22 = some (.slice 75) := by kernel_rfl
theorem rd_elem {h : Hp} {A : Option Addr} {l c : Nat} {xs : List Rul} (r : RSl h A l 12 (xs.flatMap Rul.enc)) (hl : xs.length = l) {i : Nat} (hi : i < l) :
    ∃ a : Addr, PV Tryz.prog (Instr.indexAt 22 (.slice A l c) (.int .i64 (i : Int))) (.pointer (some (a.add (i * 12)))) ∧ Cl h (a.add (i * 12)) (Rul.enc (xs[i]'(by omega))) := by
  obtain ⟨a, rfl, _⟩ := r.some (by omega)
  refine ⟨a, ?_, r.elem Rul.enc_len (List.getElem?_eq_getElem (by omega)) hl⟩
  exact ix (T := 22) (E := 75) (sz := 12) (k := .i64) (i := (i : Int)) (by omega) (by omega) und32 size55
theorem find_l1 {h : Hp} {A : Option Addr} {l c : Nat} {xs : List Rul} (r : RSl h A l 12 (xs.flatMap Rul.enc)) (hl : xs.length = l) (id : Int) (hlen : l < 2 ^ 62) {K0 : Int → Hp → Prop} {K1 : Hp → Prop} (H : K0 (findI xs id) h ∨ True) :
    ∀ (d n k : Nat), n + d = l → d < k → (∀ j, j < n → ∀ x, xs[j]? = some x → x.id ≠ id) →
      (∀ j : Nat, (∀ x, xs[j]? = some x → x.id = id) → j < l → (∀ m, m < j → ∀ x, xs[m]? = some x → x.id ≠ id) → K0 j h) → ((∀ x ∈ xs, x.id ≠ id) → K1 h) →
      table_find_l1 A l c id (l : Int) K0 K1 k n h := by
  intro d
  induction d with
  | zero =>
    intro n k hn hk hno hK0 hK1
    obtain ⟨k, rfl⟩ : ∃ m, k = m + 1 := ⟨k - 1, by omega⟩
    unfold table_find_l1
    refine br_f (by simp; omega) (hK1 fun x hx e => ?_)
    obtain ⟨j, hj⟩ := List.getElem?_of_mem hx
    exact hno j (by have := (List.getElem?_eq_some_iff.1 hj).1; omega) x hj e
  | succ d ih =>
    intro n k hn hk hno hK0 hK1
    obtain ⟨k, rfl⟩ : ∃ m, k = m + 1 := ⟨k - 1, by omega⟩
    unfold table_find_l1
    refine br_t (by simp; omega) ?_
    obtain ⟨a, hp, hcl⟩ := rd_elem (c := c) r hl (i := n) (by omega)
    refine ⟨_, hp, (xs[n]'(by omega)).id, ld (Cl.head hcl) (by kernel_rfl), ?_⟩
    have hx : xs[n]? = some (xs[n]'(by omega)) := List.getElem?_eq_getElem (by omega)
    refine br_i (fun e => ?_) (fun e => ?_)
    · exact hK0 n (fun x hx' => by rw [hx] at hx'; injection hx' with hx'; subst hx'; simpa using e) (by omega) hno
    · rw [wrap_in (by omega) (by omega)]
      refine ih (n + 1) k (by omega) (by omega) (fun j hj x hx' => ?_) hK0 hK1
      by_cases hjn : j = n
      · subst hjn; rw [hx] at hx'; injection hx' with hx'; subst hx'; simpa using e
      · exact hno j (by omega) x hx'
theorem findI_at {xs : List Rul} {id : Int} {j : Nat} (hj : j < xs.length) (h1 : ∀ x, xs[j]? = some x → x.id = id) (h2 : ∀ m, m < j → ∀ x, xs[m]? = some x → x.id ≠ id) : findI xs id = j := by
  unfold findI
  have : xs.findIdx? (fun r => r.id == id) = some j := by
    rw [List.findIdx?_eq_some_iff_getElem]
    refine ⟨hj, by simpa using h1 _ (List.getElem?_eq_getElem hj), fun m hm => ?_⟩
    simpa using h2 m hm _ (List.getElem?_eq_getElem (by omega))
  rw [this]
theorem findI_none {xs : List Rul} {id : Int} (h : ∀ x ∈ xs, x.id ≠ id) : findI xs id = -1 := by
  unfold findI
  have : xs.findIdx? (fun r => r.id == id) = none := by
    rw [List.findIdx?_eq_none_iff]
    intro x hx
    simpa using h x hx
  rw [this]
theorem table_find_s {h : Hp} {A : Option Addr} {l c : Nat} {xs : List Rul} (r : RSl h A l 12 (xs.flatMap Rul.enc)) (hl : xs.length = l) (id : Int) (hlen : l < 2 ^ 62) {K : Value → Hp → Prop} (H : K (.int .i64 (findI xs id)) h) : CallsH Tryz.prog 64 #[Value.slice A l c, .int .i64 id] h K := by
  refine table_find_ok _ _ _ _ ?_
  unfold table_find
  refine ⟨l + 1, ?_⟩
  refine find_l1 r hl id hlen (.inr trivial) l 0 (l + 1) (by omega) (by omega) (fun j hj => by omega) (fun j h1 hj h2 => ?_) (fun hno => ?_)
  · rw [findI_at (by omega) h1 h2] at H; exact H
  · rw [findI_none hno] at H; exact H
theorem Rul.flatT (r : Rul) : r.enc.all flatV = true := rfl
theorem Rul.cells_val (r : Rul) : r.val.cells = r.enc.toArray := rfl
/-- A configuration. -/
structure Cfg where
  max : Int
  dflt : Int
  prune : Int
  grid : Int
  tuple : Int
  binth : Int
  depth : Int
  deriving DecidableEq
def Cfg.enc (c : Cfg) : List Value := [.int .i64 c.max, .int .i64 c.dflt, .int .i64 c.prune, .int .i64 c.grid, .int .i64 c.tuple, .int .i64 c.binth, .int .i64 c.depth]
def Cfg.val (c : Cfg) : Value := .agg #[.int .i64 c.max, .int .i64 c.dflt, .int .i64 c.prune, .int .i64 c.grid, .int .i64 c.tuple, .int .i64 c.binth, .int .i64 c.depth]
abbrev RowRT (h : Hp) (A : Option Addr) (c : Nat) (xs : List Rul) : Prop := Row h 75 Rul.enc 12 A c xs
/-- A table at block b: its configuration and its rules; S: the blocks that are its own. -/
def TabAt (h : Hp) (b : Nat) (S : Nat → Prop) (cf : Cfg) (xs : List Rul) : Prop :=
  S b ∧ (∀ k, S k → k < h.size) ∧ ∃ A c, h[b]? = some (.cells (cf.enc ++ [Value.slice A xs.length c]).toArray 109 (0, 0)) ∧ RowRT h A c xs ∧ (∀ k, blk A k → S k) ∧ ¬ blk A b
theorem TabAt.keep {h h' : Hp} {b : Nat} {S S' : Nat → Prop} {cf : Cfg} {xs : List Rul} (t : TabAt h b S cf xs) (f : Fr S' h h') (hn : ∀ k, S k → ¬ S' k) : TabAt h' b S cf xs := by
  obtain ⟨h1, h2, A, c, hb, hr, hS, hne⟩ := t
  exact ⟨h1, fun k hk => Nat.lt_of_lt_of_le (h2 k hk) f.size, A, c, f.get hb (hn b h1), hr.keep f (fun k hk => hn k (hS k hk)), hS, hne⟩
theorem TabAt.ext {h h' : Hp} {b : Nat} {S : Nat → Prop} {cf : Cfg} {xs : List Rul} (t : TabAt h b S cf xs) (e : Ext h h') : TabAt h' b S cf xs := t.keep (e.fr (fun _ => False)) (fun _ _ h => h)
theorem ld_rules {h : Hp} {b : Nat} {cf : Cfg} {A : Option Addr} {n c : Nat} (hb : h[b]? = some (.cells (cf.enc ++ [Value.slice A n c]).toArray 109 (0, 0))) : HV Tryz.prog (Instr.loadAt 22 (.pointer (some ((⟨b, 0, none⟩ : Addr).add 7)))) h (.slice A n c) :=
  ld (by rw [add_eq0, cell_of hb]; rfl) (by kernel_rfl)
theorem st_rules {h : Hp} {b : Nat} {cf : Cfg} {A A' : Option Addr} {n c n' c' : Nat} {K : Hp → Prop} (hb : h[b]? = some (.cells (cf.enc ++ [Value.slice A n c]).toArray 109 (0, 0)))
    (H : ∀ h', h'[b]? = some (.cells (cf.enc ++ [Value.slice A' n' c']).toArray 109 (0, 0)) → Fr (fun k => k = b) h h' → h'.size = h.size → K h') : HU Tryz.prog (Instr.storeAt 22 (.pointer (some ((⟨b, 0, none⟩ : Addr).add 7))) (.slice A' n' c')) h K := by
  rw [add_eq0]
  refine HU_st (us := [Value.slice A' n' c']) hb rfl (by kernel_rfl) (by simp [Cfg.enc]) rfl ?_
  have e : (cf.enc ++ [Value.slice A n c]).take 7 ++ [Value.slice A' n' c'] ++ (cf.enc ++ [Value.slice A n c]).drop (7 + [Value.slice A' n' c'].length) = cf.enc ++ [Value.slice A' n' c'] := rfl
  rw [e]
  exact H _ (setB_get (lt_of_get hb)) (setB_fr rfl) setB_size
def zRul : Rul := ⟨0, 0, 0, 0, 0, 0, 0, 0, 0, 0, 0, 0⟩
theorem take_drop_set {α : Type} (xs : List α) (z r : α) (p : Nat) (hp : p ≤ xs.length) :
    ((xs ++ [z]).take (p + 1) ++ ((xs ++ [z]).drop p).take (xs.length - p) ++ (xs ++ [z]).drop (p + 1 + (xs.length - p))).set p r = xs.take p ++ r :: xs.drop p := by
  have h1 : (xs ++ [z]).drop (p + 1 + (xs.length - p)) = [] := List.drop_of_length_le (by simp; omega)
  have h2 : ((xs ++ [z]).drop p).take (xs.length - p) = xs.drop p := by
    rw [List.drop_append_of_le_length hp, List.take_append_of_le_length (by simp)]
    rw [List.take_of_length_le (by simp)]
  rw [h1, h2, List.append_nil]
  have h3 : ((xs ++ [z]).take (p + 1)).length = p + 1 := by simp; omega
  rw [List.set_append_left _ _ (by omega), List.set_eq_take_append_cons_drop, if_pos (by omega)]
  rw [List.take_take, Nat.min_eq_left (by omega), List.drop_of_length_le (l := (xs ++ [z]).take (p + 1)) (by omega), List.take_append_of_le_length hp]
  simp
theorem TabAt.rules {h : Hp} {b : Nat} {S : Nat → Prop} {cf : Cfg} {xs : List Rul} (t : TabAt h b S cf xs) : ∃ A c, h[b]? = some (.cells (cf.enc ++ [Value.slice A xs.length c]).toArray 109 (0, 0)) ∧ RSl h A xs.length 12 (xs.flatMap Rul.enc) := by
  obtain ⟨_, _, A, c, hb, hr, _⟩ := t
  exact ⟨A, c, hb, hr.read⟩
/-- What Insert says to a rule. -/
def takesI (xs : List Rul) (r : Rul) : Int := if r.check.1 ≠ 0 then r.check.1 else if findI xs r.id ≥ 0 then 111 else 0
theorem table_takes_s {p : Option Addr} {h : Hp} {A : Option Addr} {l c : Nat} {xs : List Rul} (rs : RSl h A l 12 (xs.flatMap Rul.enc)) (hl : xs.length = l) (hlen : l < 2 ^ 62) (r : Rul) {K : Value → Hp → Prop}
    (H : ∀ v h', Ext h h' → v = takesI xs r → K (.int .i64 v) h') : CallsH Tryz.prog 35 #[.pointer p, .slice A l c, r.val] h K := by
  refine table_Table_takes_ok _ _ _ _ _ _ _ _ _ _ _ _ _ _ _ _ ?_
  unfold table_Table_takes
  refine newC_i fun h1 e1 c1 b1 z1 => ?_
  refine ⟨_, _, _, _, _, _, _, _, _, _, _, _, ldS c1 (by kernel_rfl), ?_⟩
  refine rule_Check_s r (fun e i h2 e2 he => ?_)
  refine ⟨_, _, rfl, ?_⟩
  have he1 : e = r.check.1 := by rw [← he]
  refine br_i (fun hc => ?_) (fun hc => ?_)
  · refine H _ _ (e1.trans e2) ?_
    rw [takesI, if_pos (by rw [← he1]; simpa using hc)]; exact he1
  · have hz : r.check.1 = 0 := by rw [← he1]; simpa using hc
    refine ⟨_, ld (Cl.head (c1.ext e2)) (by kernel_rfl), ?_⟩
    refine table_find_s (rs.ext (e1.trans e2)) hl r.id hlen ?_
    refine ⟨_, rfl, ?_⟩
    refine br_i (fun hd => ?_) (fun hd => ?_)
    · refine H _ _ (e1.trans e2) ?_
      rw [takesI, if_neg (by simp [hz]), if_pos (by simpa using hd)]
    · refine H _ _ (e1.trans e2) ?_
      rw [takesI, if_neg (by simp [hz]), if_neg (by simpa using hd)]
theorem eq27 : Tryz.prog.underlying 35 = some (.pointer (Tryz.prog.pointee 35)) := by kernel_rfl
theorem ld_max {h : Hp} {b : Nat} {cf : Cfg} {v : Value} (hb : h[b]? = some (.cells (cf.enc ++ [v]).toArray 109 (0, 0))) : HV Tryz.prog (Instr.loadAt 3 (.pointer (some ⟨b, 0, none⟩))) h (.int .i64 cf.max) :=
  ld (by rw [cell_of hb]; rfl) (by kernel_rfl)
/-- Insert: the error's number, and the rules then. -/
def insI (cf : Cfg) (xs : List Rul) (p : Int) (r : Rul) : Int × List Rul :=
  if takesI xs r ≠ 0 then (takesI xs r, xs) else if ¬ (0 ≤ p ∧ p ≤ xs.length) then (112, xs) else if (xs.length : Int) ≥ cf.max then (113, xs) else (0, xs.take p.toNat ++ r :: xs.drop p.toNat)
/-- Delete. -/
def delI (xs : List Rul) (id : Int) : Int × List Rul := if findI xs id < 0 then (114, xs) else (0, xs.take (findI xs id).toNat ++ xs.drop ((findI xs id).toNat + 1))
theorem findI_lt (xs : List Rul) (id : Int) (h : 0 ≤ findI xs id) : ∃ j : Nat, findI xs id = j ∧ ∃ hj : j < xs.length, (xs[j]).id = id := by
  unfold findI at *
  cases hf : xs.findIdx? (fun r => r.id == id) with
  | none => rw [hf] at h; simp at h
  | some j =>
    obtain ⟨hj, h1, _⟩ := List.findIdx?_eq_some_iff_getElem.1 hf
    exact ⟨j, rfl, hj, by simpa using h1⟩
theorem zero55 : zRul.enc = [.int .i64 0, .int .u32 0, .int .i64 0, .int .u32 0, .int .i64 0, .int .u16 0, .int .u16 0, .int .u16 0, .int .u16 0, .int .u8 0, .int .u8 0, .int .i64 0] := rfl
theorem table_Rules_s {h : Hp} {b : Nat} {S : Nat → Prop} {cf : Cfg} {xs : List Rul} (t : TabAt h b S cf xs) (hlen : xs.length ≤ 1000000) {K : Value → Hp → Prop}
    (H : ∀ h', Ext h h' → RowRT h' (some ⟨h.size, 0, none⟩) xs.length xs → K (.slice (some ⟨h.size, 0, none⟩) xs.length xs.length) h') : CallsH Tryz.prog 13 #[.pointer (some ⟨b, 0, none⟩)] h K := by
  obtain ⟨i, z, hi, hisz, hiby, hiz, hzc⟩ := info55
  refine table_Table_Rules_ok _ ?_
  unfold table_Table_Rules
  refine ⟨_, eqNil eq27, br_f rfl ?_⟩
  obtain ⟨A, c, hb, hr⟩ := t.rules
  refine ⟨_, _, _, ld_rules hb, ?_⟩
  refine HW_makeRow (enc := Rul.enc) (zr := zRul) und32 hi hiz hisz (by omega) (by rw [hzc]; rfl) Rul.enc_len (by rw [hiby]; omega) (by omega) ?_
  intro h1 e1 r1
  refine ⟨_, _, _, rfl, ?_⟩
  obtain ⟨A1, c1, hb1, hr1⟩ := (t.ext e1).rules
  refine ⟨_, _, _, ld_rules hb1, ?_⟩
  have hl : (List.replicate xs.length zRul).length = xs.length := by simp
  rw [show HW Tryz.prog (Builtin.copy_ #[22, 22] 3 #[.slice (some ⟨h.size, 0, none⟩) xs.length xs.length, .slice A1 xs.length c1]) h1 = HW Tryz.prog (Builtin.copy_ #[22, 22] 3 #[.slice (some ⟨h.size, 0, none⟩) (List.replicate xs.length zRul).length xs.length, .slice A1 xs.length c1]) h1 by rw [hl]]
  refine HW_copyFrom (enc := Rul.enc) Rul.enc_len Rul.flatT und32 hi hisz r1 hl hr1 ?_
  intro h2 r2 f2 z2
  refine ⟨_, rfl, ?_⟩
  refine H h2 ⟨?_, fun k hk => ?_⟩ r2
  · have := e1.size; omega
  · rw [f2.keep k (by have := e1.size; omega) (by rintro ⟨a, ha, hk'⟩; injection ha with ha; subst ha; simp at hk'; omega), e1.old k hk]
def matchI (d : Int) (g : Hdr) : List Rul → Nat → (Bool × Int × Int) × Int
  | [], _ => ((false, 0, d), -1)
  | r :: rs, i => if r.has g then ((true, r.id, r.act), i) else matchI d g rs (i + 1)
def verd (v : Bool × Int × Int) : List Value := [.bool v.1, .int .i64 v.2.1, .int .i64 v.2.2]
def inB (n a b : Int) : Bool := decide (n ≥ a) && decide (n ≤ b)
def Cfg.ok (c : Cfg) : Bool := inB c.max 1 64 && inB c.dflt 1 4 && inB c.binth 1 16 && inB c.depth 0 10 && inB c.prune 0 1048576 && inB c.grid 0 1048576 && inB c.tuple 0 1048576
def Cfg.check (c : Cfg) : Int := if c.ok then 0 else 110
theorem tcheck_l3 (x0 x1 x2 : Int) {K0 : Bool → Hp → Prop} {h : Hp} (q : Bool) : ∀ (n k : Nat) (b : Bool), n ≤ 3 → 3 - n < k → (b && ([x0, x1, x2].drop n).all (fun x => inB x 0 1048576)) = q → K0 q h → table_Check_l3 x0 x1 x2 K0 k b n h := by
  intro n k
  induction k generalizing n with
  | zero => intro b _ h; omega
  | succ k ih =>
    intro b hn hk hq HK
    unfold table_Check_l3
    refine br_i (fun c => ?_) (fun c => ?_)
    · have hlt : n < 3 := by simp at c; omega
      obtain ⟨x, hx⟩ : ∃ x, [x0, x1, x2][n]? = some x := ⟨[x0, x1, x2][n]'(by simpa using hlt), by simp [hlt]⟩
      have hd : [x0, x1, x2].drop n = x :: [x0, x1, x2].drop (n + 1) := by
        rw [List.drop_eq_getElem_cons (by simpa using hlt)]
        congr 1
        rw [List.getElem?_eq_getElem (by simpa using hlt)] at hx
        exact Option.some.inj hx
      rw [hd, List.all_cons] at hq
      refine ⟨x, ?_, ?_⟩
      · intro w
        have : n = 0 ∨ n = 1 ∨ n = 2 := by omega
        rcases this with rfl | rfl | rfl <;> simp at hx <;> subst hx <;> exact pureRun_run Tryz.prog _ _ (by kernel_rfl) w
      · rw [wrap_in (by omega) (by omega)]
        refine br_i (fun c => ?_) (fun c => ?_)
        · refine table_in_s _ _ _ ⟨_, rfl, ?_⟩
          exact ih (n + 1) _ (by omega) (by omega) (by subst c; rw [← hq]; simp [inB]) HK
        · exact ih (n + 1) _ (by omega) (by omega) (by subst c; rw [← hq]; simp) HK
    · have hn3 : n = 3 := by simp at c; omega
      subst hn3
      have : b = q := by simpa using hq
      rw [this]; exact HK
theorem table_Check_s (cf : Cfg) {h : Hp} {K : Value → Hp → Prop} (H : ∀ v h', Ext h h' → v = cf.check → K (.int .i64 v) h') : CallsH Tryz.prog 34 #[cf.val] h K := by
  refine table_Check_ok _ _ _ _ _ _ _ ?_
  unfold table_Check table_Check_j2
  repeat' (first
    | (refine table_in_s _ _ _ ?_)
    | (refine tcheck_l3 _ _ _ cf.ok 0 4 _ (by omega) (by omega) ?_ ?_)
    | (refine H _ _ (by first | first | assumption | exact Ext.refl _ | exact Ext.trans2 (by assumption) (by first | first | assumption | exact Ext.refl _ | exact Ext.trans2 (by assumption) (by first | first | assumption | exact Ext.refl _ | exact Ext.trans2 (by assumption) (by first | first | assumption | exact Ext.refl _ | exact Ext.trans2 (by assumption) (by first | first | assumption | exact Ext.refl _ | exact Ext.trans2 (by assumption) (by first | first | assumption | exact Ext.refl _ | exact Ext.trans2 (by assumption) (by first | first | assumption | exact Ext.refl _ | exact Ext.trans2 (by assumption) (by first | first | assumption | exact Ext.refl _ | exact Ext.trans2 (by assumption) (by first | first | assumption | exact Ext.refl _ | exact Ext.trans2 (by assumption) (by first | assumption | exact Ext.refl _)))))))))) ?_)
    | (refine newC_i fun _ _ _ _ _ => ?_)
    | (refine br_i (fun _ => ?_) (fun _ => ?_))
    | (refine And.intro rfl ?_)
    | (refine And.intro (ld (Cl.at_ (by first | assumption | exact Cl.ext2 (by assumption) (by first | assumption | exact Cl.ext2 (by assumption) (by first | assumption | exact Cl.ext2 (by assumption) (by first | assumption | exact Cl.ext2 (by assumption) (by first | assumption | exact Cl.ext2 (by assumption) (by first | assumption | exact Cl.ext2 (by assumption) (by first | assumption | exact Cl.ext2 (by assumption) (by first | assumption | exact Cl.ext2 (by assumption) (by first | assumption | exact Cl.ext2 (by assumption) (by assumption)))))))))) _ _ rfl) (by kernel_rfl)) ?_)
    | (refine And.intro (ld (Cl.head (by first | assumption | exact Cl.ext2 (by assumption) (by first | assumption | exact Cl.ext2 (by assumption) (by first | assumption | exact Cl.ext2 (by assumption) (by first | assumption | exact Cl.ext2 (by assumption) (by first | assumption | exact Cl.ext2 (by assumption) (by first | assumption | exact Cl.ext2 (by assumption) (by first | assumption | exact Cl.ext2 (by assumption) (by first | assumption | exact Cl.ext2 (by assumption) (by first | assumption | exact Cl.ext2 (by assumption) (by assumption))))))))))) (by kernel_rfl)) ?_)
    | (refine And.intro (ldS (by first | assumption | exact Cl.ext2 (by assumption) (by first | assumption | exact Cl.ext2 (by assumption) (by first | assumption | exact Cl.ext2 (by assumption) (by first | assumption | exact Cl.ext2 (by assumption) (by first | assumption | exact Cl.ext2 (by assumption) (by first | assumption | exact Cl.ext2 (by assumption) (by first | assumption | exact Cl.ext2 (by assumption) (by first | assumption | exact Cl.ext2 (by assumption) (by first | assumption | exact Cl.ext2 (by assumption) (by assumption)))))))))) (by kernel_rfl)) ?_)
    | (refine And.intro (ldS (Cl.sl (by first | assumption | exact Cl.ext2 (by assumption) (by first | assumption | exact Cl.ext2 (by assumption) (by first | assumption | exact Cl.ext2 (by assumption) (by first | assumption | exact Cl.ext2 (by assumption) (by first | assumption | exact Cl.ext2 (by assumption) (by first | assumption | exact Cl.ext2 (by assumption) (by first | assumption | exact Cl.ext2 (by assumption) (by first | assumption | exact Cl.ext2 (by assumption) (by first | assumption | exact Cl.ext2 (by assumption) (by assumption)))))))))) rfl) (by kernel_rfl)) ?_)
    | (apply Exists.intro))
  all_goals (simp_all [Cfg.check, Cfg.ok, inB])
  all_goals (intros; first | (simp only [Bool.and_assoc]; done) | omega | (simp_all; omega) | simp_all)
theorem size24 : (Tryz.prog.info? 40).map (·.size) = some 7 := by kernel_rfl
theorem table_New_s (cf : Cfg) {h : Hp} {K : Value → Hp → Prop} (H0 : cf.check ≠ 0 → ∀ h', Ext h h' → K (.tuple #[.pointer none, .int .i64 cf.check]) h')
    (H1 : cf.check = 0 → ∀ h' b, Ext h h' → h.size ≤ b → TabAt h' b (fun k => k = b) cf [] → K (.tuple #[.pointer (some ⟨b, 0, none⟩), .int .i64 0]) h') : CallsH Tryz.prog 9 #[cf.val] h K := by
  refine table_New_ok _ _ _ _ _ _ _ ?_
  unfold table_New
  refine newC_i fun h1 e1 c1 b1 z1 => ?_
  refine ⟨_, _, _, _, _, _, _, ldS c1 (by kernel_rfl), ?_⟩
  refine table_Check_s cf (fun v h2 e2 hv => ?_)
  refine ⟨_, rfl, ?_⟩
  subst hv
  refine br_i (fun hc => ?_) (fun hc => ?_)
  · exact H0 (by simpa using hc) h2 (e1.trans e2)
  · refine ⟨_, _, _, _, _, _, _, ldS (c1.ext e2) (by kernel_rfl), ?_⟩
    refine newC_i fun h3 e3 c3 b3 z3 => ?_
    refine H1 (by simpa using hc) h3 h2.size ((e1.trans e2).trans e3) (e1.trans e2).size ?_
    refine ⟨rfl, fun k hk => by omega, none, 0, b3, .inl ⟨rfl, rfl, rfl, rfl⟩, ?_, ?_⟩
    · rintro k ⟨a, ha, _⟩; cases ha
    · rintro ⟨a, ha, _⟩; cases ha
def atI (xs : List Rul) (p : Int) : Rul × Int := if h : 0 ≤ p ∧ p < xs.length then (xs[p.toNat]'(by omega), 0) else (zRul, 112)
def setI (max : Int) : List Rul → List Rul → Nat → Int
  | _, [], _ => 0
  | seen, r :: rs, i => if takesI seen r ≠ 0 then takesI seen r else if (i : Int) ≥ max then 113 else setI max (seen ++ [r]) rs (i + 1)
theorem table_Set_l {h0 : Hp} {b : Nat} {S : Nat → Prop} {cf : Cfg} {ys : List Rul} (xs : List Rul) {A : Option Addr} {l c : Nat} (hl : xs.length = l) (hlen : l < 2 ^ 62) {K0 : Int → Hp → Prop} {K1 : Option Addr → Option Addr → Nat → Nat → Hp → Prop} (hA : l ≤ c) :
    ∀ (rs : List Rul) (n k : Nat) (h : Hp), xs.drop n = rs → n ≤ l → l - n < k → Ext h0 h → TabAt h b S cf ys → RSl h A l 12 (xs.flatMap Rul.enc) →
      (∀ v h', setI cf.max (xs.take n) rs n = v → v ≠ 0 → Ext h0 h' → K0 v h') → (∀ h', setI cf.max (xs.take n) rs n = 0 → Ext h0 h' → K1 (some ⟨b, 0, none⟩) A l c h') →
      table_Table_Set_l1 (some ⟨b, 0, none⟩) A l c A l c (l : Int) K0 K1 k n h := by
  intro rs
  induction rs with
  | nil =>
    intro n k h hd hn hk he ht hr H0 H1
    obtain ⟨k, rfl⟩ : ∃ m, k = m + 1 := ⟨k - 1, by omega⟩
    have : l ≤ n := by have := congrArg List.length hd; simp at this; omega
    unfold table_Table_Set_l1
    exact br_f (by simp; omega) (H1 h rfl he)
  | cons r rs ih =>
    intro n k h hd hn hk he ht hr H0 H1
    obtain ⟨k, rfl⟩ : ∃ m, k = m + 1 := ⟨k - 1, by omega⟩
    obtain ⟨i, z, hi, hisz, hiby, hiz, hzc⟩ := info55
    have hlt : n < l := by have := congrArg List.length hd; simp at this; omega
    have hget : xs[n]'(by omega) = r := by
      rw [List.drop_eq_getElem_cons (by omega)] at hd
      injection hd
    have hd' : xs.drop (n + 1) = rs := by
      rw [List.drop_eq_getElem_cons (by omega)] at hd
      injection hd
    have htk : xs.take (n + 1) = xs.take n ++ [r] := by rw [List.take_succ_eq_append_getElem (by omega), hget]
    unfold table_Table_Set_l1
    refine br_t (by simp; omega) ?_
    obtain ⟨a, hp, hcl⟩ := rd_elem (c := c) hr hl hlt
    rw [hget] at hcl
    refine ⟨_, hp, ?_⟩
    refine ⟨_, _, _, _, _, _, _, _, _, _, _, _, ldS hcl (by kernel_rfl), ?_⟩
    refine newV (us := r.enc) rfl rfl (by kernel_rfl) rfl fun h1 e1 c1 b1 z1 => ?_
    refine ⟨_, _, _, slHi und32 hi (by omega) (by omega), ?_⟩
    rw [Int.toNat_natCast]
    refine ⟨_, _, _, _, _, _, _, _, _, _, _, _, ldS c1 (by kernel_rfl), ?_⟩
    have hrt : RSl h1 A n 12 ((xs.take n).flatMap Rul.enc) := by
      obtain ⟨a', hA', hcl'⟩ := (hr.ext e1).some (by omega)
      refine ⟨by rw [flat_len Rul.enc_len]; simp; omega, .inr ⟨a', hA', ?_⟩⟩
      refine ⟨hcl'.spot, fun j v hj => hcl'.at_ j v ?_⟩
      rw [← flat_take Rul.enc_len, List.getElem?_take] at hj
      split at hj
      · exact hj
      · cases hj
    refine table_takes_s (xs := xs.take n) hrt (by simp; omega) (by omega) r (fun v h2 e2 hv => ?_)
    refine ⟨_, rfl, ?_⟩
    have e12 := e1.trans e2
    refine br_i (fun hc => ?_) (fun hc => ?_)
    · exact H0 v h2 (by rw [setI, if_pos (by rw [← hv]; simpa using hc)]; exact hv.symm) (by simpa using hc) (he.trans e12)
    · have hz : takesI (xs.take n) r = 0 := by rw [← hv]; simpa using hc
      obtain ⟨A', c', hb', _⟩ := (ht.ext e12).rules
      refine ⟨_, ld_max hb', ?_⟩
      refine br_i (fun hd => ?_) (fun hd => ?_)
      · exact H0 113 h2 (by rw [setI, if_neg (by simp [hz]), if_pos (by simpa using hd)]) (by simp) (he.trans e12)
      · have hno : setI cf.max (xs.take n) (r :: rs) n = setI cf.max (xs.take (n + 1)) rs (n + 1) := by rw [setI, if_neg (by simp [hz]), if_neg (by simpa using hd), htk]
        rw [hno] at H0 H1
        rw [wrap_in (by omega) (by omega)]
        exact ih (n + 1) k h2 hd' (by omega) (by omega) (he.trans e12) (ht.ext e12) (hr.ext e12) H0 H1
theorem table_Set_s {h : Hp} {b : Nat} {S : Nat → Prop} {cf : Cfg} {ys xs : List Rul} (t : TabAt h b S cf ys) {A : Option Addr} {l c : Nat} (hl : xs.length = l) (hlen : l ≤ 1000000) (hc : l ≤ c) (hr : RSl h A l 12 (xs.flatMap Rul.enc)) (hrS : 0 < l → ∀ a, A = some a → ¬ S a.block) {K : Value → Hp → Prop}
    (H : ∀ h' S', TabAt h' b S' cf (if setI cf.max [] xs 0 = 0 then xs else ys) → (∀ k, S' k → S k ∨ h.size ≤ k) → Fr S h h' → K (.int .i64 (setI cf.max [] xs 0)) h') : CallsH Tryz.prog 11 #[.pointer (some ⟨b, 0, none⟩), .slice A l c] h K := by
  obtain ⟨i, z, hi, hisz, hiby, hiz, hzc⟩ := info55
  refine table_Table_Set_ok _ _ _ _ ?_
  unfold table_Table_Set
  refine ⟨_, eqNil eq27, br_f rfl ?_⟩
  refine ⟨l + 1, ?_⟩
  refine table_Set_l (h0 := h) (ys := ys) (S := S) (cf := cf) xs hl (by omega) hc xs 0 (l + 1) h rfl (by omega) (by omega) (Ext.refl _) t hr ?_ ?_
  · intro v h' hv hne he
    simp only [List.take_zero] at hv
    rw [hv, if_neg hne] at H
    exact H h' S (t.ext he) (fun k hk => .inl hk) (he.fr S)
  · intro h1 hv he
    simp only [List.take_zero] at hv
    rw [hv, if_pos rfl] at H
    refine HW_makeRow (enc := Rul.enc) (zr := zRul) und32 hi hiz hisz (by omega) (by rw [hzc]; rfl) Rul.enc_len (by rw [hiby]; omega) (by omega) ?_
    intro h2 e2 r2
    refine ⟨_, _, _, rfl, ?_⟩
    obtain ⟨hSb, hSl, A0, c0, hb0, hr0, hSA, hne⟩ := t
    have e02 := he.trans e2
    have hb2 := (e02.fr (fun _ => False)).get hb0 (fun h => h)
    refine st_rules hb2 fun h3 hb3 f3 z3 => ?_
    have hbl : b < h.size := lt_of_get hb0
    have hs1 := he.size
    have r3 := r2.keep f3 (by rintro k ⟨a, ha, hk⟩ rfl; injection ha with ha; subst ha; simp at hk; omega)
    have hr3 : RSl h3 A l 12 (xs.flatMap Rul.enc) := by
      obtain ⟨q1, q2⟩ := hr.ext e02
      refine ⟨q1, ?_⟩
      rcases q2 with q2 | ⟨a, ha, hcl⟩
      · exact .inl q2
      · rcases Nat.eq_zero_or_pos l with hz | hz
        · exact .inl hz
        · exact .inr ⟨a, ha, f3.cl hcl (fun hab => hrS hz a ha (hab ▸ hSb))⟩
    refine ⟨_, _, _, ld_rules hb3, ?_⟩
    subst hl
    have hrl : (List.replicate xs.length zRul).length = xs.length := by simp
    rw [show HW Tryz.prog (Builtin.copy_ #[22, 22] 3 #[.slice (some ⟨h1.size, 0, none⟩) xs.length xs.length, .slice A xs.length c]) h3 = HW Tryz.prog (Builtin.copy_ #[22, 22] 3 #[.slice (some ⟨h1.size, 0, none⟩) (List.replicate xs.length zRul).length xs.length, .slice A xs.length c]) h3 by rw [hrl]]
    refine HW_copyFrom (enc := Rul.enc) Rul.enc_len Rul.flatT und32 hi hisz r3 hrl hr3 ?_
    intro h4 r4 f4 z4
    refine ⟨_, rfl, ?_⟩
    have hb4 := f4.get hb3 (by rintro ⟨a, ha, hk⟩; injection ha with ha; subst ha; simp at hk; omega)
    have h1l : h1.size < h4.size := by
      have : h1.size < h2.size := by
        rcases r2 with ⟨h, _⟩ | ⟨g, rest, hA, hg, _⟩
        · cases h
        · injection hA with hA; injection hA with hA; rw [hA]; exact lt_of_get hg
      have := f3.size; have := f4.size; omega
    have q : Fr S h h4 := ((e02.fr S).then_ f3 (fun k hk => .inl (hk ▸ hSb))).then_ f4 (by rintro k ⟨a, ha, hk⟩; injection ha with ha; subst ha; simp at hk; exact .inr (by omega))
    refine H h4 (fun k => S k ∨ k = h1.size) ⟨.inl hSb, fun k hk => ?_, some ⟨h1.size, 0, none⟩, xs.length, hb4, r4, ?_, ?_⟩ (fun k hk => hk.imp id (fun h => by omega)) q
    · rcases hk with hk | hk
      · exact Nat.lt_of_lt_of_le (hSl k hk) q.size
      · omega
    · rintro k ⟨a, ha, hk⟩; injection ha with ha; subst ha; exact .inr hk.symm
    · rintro ⟨a, ha, hk⟩; injection ha with ha; subst ha; simp at hk; omega
end Go.Proofs.YtfdpccbajaiepaaGreatDoor.Fs

/- The table's Match (out of the chapter on tables, by names). -/
namespace Go.Proofs.YtfdpccbajaiepaaGreatDoor.Fs
open Go Go.RowKit Go.Proofs.YtfdpccbajaiepaaGreatDoor.Sx Go.Proofs.YtfdpccbajaiepaaGreatDoor.Sxp.Fx
set_option linter.unusedVariables false
set_option linter.unusedSimpArgs false
set_option maxRecDepth 10000
theorem size40 : (Tryz.prog.info? 104).map (·.size) = some 3 := by kernel_rfl
theorem match_l1 {A : Option Addr} {l c : Nat} {p : Option Addr} {xs : List Rul} (hl : xs.length = l) (g : Hdr) (d : Int) (hlen : l < 2 ^ 62) (ga gb : Nat) {K0 : Addr → Int → Hp → Prop} {K1 : Option Addr → Addr → Hp → Prop} {h0 : Hp} (hgb : h0.size ≤ gb) :
    ∀ (rs : List Rul) (n k : Nat) (h : Hp), xs.drop n = rs → n ≤ l → l - n < k → Ext h0 h → RSl h A l 12 (xs.flatMap Rul.enc) → Cl h ⟨ga, 0, none⟩ g.enc → h[gb]? = some (.cells (verd (false, 0, 0)).toArray 104 (0, 0)) →
      (∀ (i : Int) (h' : Hp) (v : Bool × Int × Int), matchI d g rs n = (v, i) → v.1 = true → Ext h0 h' → Cl h' ⟨gb, 0, none⟩ (verd v) → K0 ⟨gb, 0, none⟩ i h') →
      (∀ h', matchI d g rs n = ((false, 0, d), -1) → Ext h0 h' → h'[gb]? = some (.cells (verd (false, 0, 0)).toArray 104 (0, 0)) → K1 p ⟨gb, 0, none⟩ h') →
      table_Table_Match_l1 p ⟨ga, 0, none⟩ ⟨gb, 0, none⟩ A l c (l : Int) K0 K1 k n h := by
  intro rs
  induction rs with
  | nil =>
    intro n k h hd hn hk he hr hg hb H0 H1
    obtain ⟨k, rfl⟩ : ∃ m, k = m + 1 := ⟨k - 1, by omega⟩
    have : l ≤ n := by have := congrArg List.length hd; simp at this; omega
    unfold table_Table_Match_l1
    exact br_f (by simp; omega) (H1 h rfl he hb)
  | cons r rs ih =>
    intro n k h hd hn hk he hr hg hb H0 H1
    obtain ⟨k, rfl⟩ : ∃ m, k = m + 1 := ⟨k - 1, by omega⟩
    have hlt : n < l := by have := congrArg List.length hd; simp at this; omega
    have hget : xs[n]'(by omega) = r := by
      rw [List.drop_eq_getElem_cons (by omega)] at hd
      injection hd
    have hd' : xs.drop (n + 1) = rs := by
      rw [List.drop_eq_getElem_cons (by omega)] at hd
      injection hd
    unfold table_Table_Match_l1
    refine br_t (by simp; omega) ?_
    obtain ⟨a, hp, hcl⟩ := rd_elem (c := c) hr hl hlt
    rw [hget] at hcl
    refine ⟨_, hp, ?_⟩
    refine ⟨_, _, _, _, _, _, _, _, _, _, _, _, ldS hcl (by kernel_rfl), ?_⟩
    refine newV (us := r.enc) rfl rfl (by kernel_rfl) rfl fun h1 e1 c1 b1 z1 => ?_
    refine ⟨_, _, _, _, _, _, _, _, _, _, _, _, ldS c1 (by kernel_rfl), ?_⟩
    refine ⟨_, _, _, _, _, ldS (hg.ext e1) (by kernel_rfl), ?_⟩
    refine rule_Match_s r g (fun v h2 e2 hv => ?_)
    refine ⟨_, rfl, ?_⟩
    have hgbh : gb < h.size := lt_of_get hb
    have e12 := e1.trans e2
    have hb2 := (e12.fr (fun _ => False)).get hb (fun h => h)
    refine br_i (fun hc => ?_) (fun hc => ?_)
    · refine ⟨_, ld (Cl.head (c1.ext e2)) (by kernel_rfl), ?_⟩
      refine ⟨_, ld ((c1.ext e2).at_ 11 _ rfl) (by kernel_rfl), ?_⟩
      refine HU_box (us := verd (true, r.id, r.act)) hb2 rfl rfl size40 rfl fun h3 c3 b3 f3 z3 => ?_
      refine H0 n h3 (true, r.id, r.act) (by rw [matchI, if_pos (by rw [← hv]; exact hc)]) rfl ⟨?_, fun q hq => ?_⟩ c3
      · have := he.size; have := e12.size; omega
      · rw [f3.keep q (by have := he.size; have := e12.size; omega) (by omega), e12.old q (by have := he.size; omega), he.old q hq]
    · have hno : matchI d g (r :: rs) n = matchI d g rs (n + 1) := by rw [matchI, if_neg (by rw [← hv, hc]; simp)]
      rw [wrap_in (by omega) (by omega)]
      rw [hno] at H0 H1
      exact ih (n + 1) k h2 hd' (by omega) (by omega) (he.trans e12) (hr.ext e12) (hg.ext e12) hb2 H0 H1
theorem table_Match_s {h : Hp} {b : Nat} {S : Nat → Prop} {cf : Cfg} {xs : List Rul} (t : TabAt h b S cf xs) (g : Hdr) (hlen : xs.length ≤ 1000000) {K : Value → Hp → Prop}
    (H : ∀ h' v i, Ext h h' → matchI cf.dflt g xs 0 = (v, i) → K (.tuple #[.agg (verd v).toArray, .int .i64 i]) h') : CallsH Tryz.prog 33 #[.pointer (some ⟨b, 0, none⟩), g.val] h K := by
  refine table_Table_Match_ok _ _ _ _ _ _ ?_
  unfold table_Table_Match
  refine newC_i fun h1 e1 c1 b1 z1 => ?_
  refine newC_i fun h2 e2 c2 b2 z2 => ?_
  refine ⟨_, eqNil eq27, br_f rfl ?_⟩
  have e12 := e1.trans e2
  obtain ⟨A, c, hb, hr⟩ := (t.ext e12).rules
  refine ⟨_, _, _, ld_rules hb, ?_⟩
  refine ⟨xs.length + 1, ?_⟩
  refine match_l1 (h0 := h) rfl g cf.dflt (by omega) h.size h1.size e1.size xs 0 (xs.length + 1) h2 rfl (by omega) (by omega) e12 hr (c1.ext e2) b2 ?_ ?_
  · intro i h' v hm hv he hcl
    refine ⟨_, _, _, ldS hcl (by kernel_rfl), ?_⟩
    exact H h' v i he hm
  · intro h' hm he hb'
    have tb := t.ext he
    obtain ⟨A', c', hbb, _⟩ := tb.rules
    refine ⟨_, ld (a := (⟨b, 0, none⟩ : Addr).add 1) (by rw [add_eq0, cell_of hbb]; rfl) (by kernel_rfl), ?_⟩
    refine HU_box (us := verd (false, 0, cf.dflt)) hb' rfl rfl size40 rfl fun h3 c3 b3 f3 z3 => ?_
    refine ⟨_, _, _, ldS c3 (by kernel_rfl), ?_⟩
    refine H h3 (false, 0, cf.dflt) (-1) ⟨?_, fun q hq => ?_⟩ hm
    · have := he.size; omega
    · rw [f3.keep q (by have := he.size; omega) (by have := e1.size; omega), he.old q hq]
end Go.Proofs.YtfdpccbajaiepaaGreatDoor.Fs

/- reads: rules are read and kept. -/
namespace Go.Proofs.YtfdpccbajaiepaaGreatDoor.Lx
open Go Go.RowKit Go.Proofs.YtfdpccbajaiepaaGreatDoor.Sx Go.Proofs.YtfdpccbajaiepaaGreatDoor.Sxp Go.Proofs.YtfdpccbajaiepaaGreatDoor.Sxp.Fx Go.Proofs.YtfdpccbajaiepaaGreatDoor.Fs
set_option linter.unusedVariables false
set_option linter.unusedSimpArgs false
set_option maxRecDepth 10000
def exT : List UInt8 := [49, 32, 112, 101, 114, 109, 105, 116, 32, 49, 48, 46, 48, 46, 48, 46, 48, 47, 56, 32, 42, 32, 42, 32, 42, 32, 42, 10]
def exR : Rul := ⟨1, 167772160, 8, 0, 0, 0, 65535, 0, 65535, 0, 0, 2⟩
def exTs : List TokM := match lexM exT with
  | some (.ok ts) => ts
  | _ => []
theorem ex_lex0 : (match lexM exT with | some (.ok _) => true | _ => false) = true := by decide +kernel
theorem ex_lex : lexM exT = some (.ok exTs) := by
  have h := ex_lex0
  unfold exTs
  cases hL : lexM exT with
  | none => rw [hL] at h; cases h
  | some R =>
    cases R with
    | error e => rw [hL] at h; cases h
    | ok ts => rfl
theorem ex_rules : (match rulesR exTs with | .ok l => decide (l = [exR]) | .error _ => false) = true := by decide +kernel
theorem ex_rules' : rulesR exTs = .ok [exR] := by
  have h := ex_rules
  cases hR : rulesR exTs with
  | error f => rw [hR] at h; cases h
  | ok l => rw [hR] at h; simpa using h
def roomC (a : Int) : Cfg := ⟨64, a, 1048576, 1048576, 1048576, 4, 8⟩
theorem roomy_s (a : Int) {h : Hp} {K : Value → Hp → Prop} (H : ∀ h', Ext h h' → K (roomC a).val h') : CallsH Tryz.prog 10 #[.int .i64 a] h K := by
  refine quintettop_roomy_ok _ ?_
  unfold quintettop_roomy
  refine newV (us := (roomC a).enc) rfl rfl (by kernel_rfl) rfl fun h1 e1 c1 b1 z1 => ?_
  exact ⟨_, _, _, _, _, _, _, ldS (vs := (roomC a).enc) c1 (by kernel_rfl), H h1 e1⟩
def exG : Hdr := ⟨167772167, 0, 0, 0, 0⟩
theorem eqVd (b : Int) (c : Int) : PV Tryz.prog (binOp .eql 104 (.agg #[.bool true, .int .i64 b, .int .i64 c]) (.agg #[.bool true, .int .i64 b, .int .i64 c])) (.bool true) := by
  intro w
  rw [run_eql_struct, run_equalIn_struct w 9999 104 _ _ (by kernel_rfl) (by kernel_rfl)]
  simp [go_sem]
theorem reads_s {h : Hp} {K : Value → Hp → Prop} (H : ∀ h', Ext h h' → K (.bool true) h') : CallsH Tryz.prog 8 #[] h K := by
  refine quintettop_reads_ok ?_
  unfold quintettop_reads
  refine Rules_s (s := exT) ex_lex ?_
  rw [ex_rules']
  intro h1 A c e1 r1 f1
  refine ⟨_, _, _, _, rfl, ?_⟩
  refine roomy_s 1 fun h2 e2 => ⟨_, _, _, _, _, _, _, rfl, ?_⟩
  refine table_New_s (roomC 1) (fun hn => absurd (by decide) hn) fun _ h3 b e3 hb t3 => ⟨_, _, rfl, ?_⟩
  refine ⟨false, fun w => pureRun_run _ _ _ (by kernel_rfl) w, br_f rfl ⟨false, eqNil eq27, br_f rfl (br_f (by decide) (br_f (by decide) ?_))⟩⟩
  have E3 := (e1.trans e2).trans e3
  have r3 : RowC h3 75 Rul.enc 12 A c [exR] := (r1.ext e2).ext e3
  have hc : 1 ≤ c := by
    rcases r3.row with ⟨_, h1, _⟩ | ⟨g, rest, rfl, hb, h1, h2, h3⟩
    · cases h1
    · exact h3
  refine table_Set_s t3 (A := A) (l := 1) (c := c) (xs := [exR]) rfl (by omega) hc r3.read (fun _ a ha hk => ?_) fun h4 S' t4 hS f4 => ?_
  · have := r1.old a.block ⟨a, ha, rfl⟩
    have := e2.size
    omega
  have hset : setI (roomC 1).max [] [exR] 0 = 0 := by decide +kernel
  rw [hset] at t4 ⊢
  refine ⟨_, rfl, br_f (by decide) ?_⟩
  have E4 : Ext h h4 := extOwn E3 f4 (fun k hk => by have := e1.size; have := e2.size; omega)
  unfold quintettop_reads_j1
  refine table_Match_s t4 exG (by simp) fun h5 v i e5 hm => ?_
  have hm2 : matchI (roomC 1).dflt exG [exR] 0 = ((true, 1, 2), 0) := by decide +kernel
  have hm3 : ((true, 1, 2), 0) = (v, i) := hm2.symm.trans hm
  injection hm3 with hv hi
  subst hv hi
  refine ⟨_, _, _, _, rfl, ?_⟩
  refine newV (us := verd (true, 1, 2)) rfl rfl (by kernel_rfl) rfl fun h6 e6 c6 b6 z6 => ?_
  refine br_t (by decide) ⟨_, _, _, ldS (vs := verd (true, 1, 2)) c6 (by kernel_rfl), _, eqVd 1 2, ?_⟩
  exact H h6 ((E4.trans e5).trans e6)
end Go.Proofs.YtfdpccbajaiepaaGreatDoor.Lx

/- TopAsks: any header, as bytes and as the text of a question, is the same header again. -/
namespace Go.Proofs.YtfdpccbajaiepaaGreatDoor.Pr
open Go Go.RowKit Go.Proofs.YtfdpccbajaiepaaGreatDoor.Sx Go.Proofs.YtfdpccbajaiepaaGreatDoor.Sxp Go.Proofs.YtfdpccbajaiepaaGreatDoor.Sxp.Fx Go.Proofs.YtfdpccbajaiepaaGreatDoor.Lx Go.Proofs.YtfdpccbajaiepaaGreatDoor.Fs
set_option linter.unusedVariables false
set_option linter.unusedSimpArgs false
set_option maxRecDepth 10000
theorem line_app (l r : List UInt8) (hl : ∀ c ∈ l, c.toNat ≠ 10) : lineLen (l ++ 10 :: r) = l.length := by
  unfold lineLen
  induction l with
  | nil => rfl
  | cons c l ih =>
    rw [List.cons_append, List.takeWhile_cons]
    have : (c.toNat != 10) = true := by simpa using hl c (by simp)
    rw [this]
    simp only [if_true, List.length_cons]
    rw [ih fun c hc => hl c (by simp [hc])]
theorem kind_line {c : UInt8} (h : kindB c ≠ 0) : c.toNat ≠ 10 := (kind_not h).2.2
theorem dec_line (u : Nat) : ∀ c ∈ dec u, c.toNat ≠ 10 := fun c hc => kind_line (by rw [dec_kind u c hc]; omega)
theorem addr_line (a : Nat) : ∀ c ∈ addrT0 a, c.toNat ≠ 10 := by
  intro c hc
  unfold addrT0 at hc
  simp only [List.mem_append, List.mem_cons] at hc
  rcases hc with hc | rfl | hc | rfl | hc | rfl | hc
  · exact dec_line _ c hc
  · decide
  · exact dec_line _ c hc
  · decide
  · exact dec_line _ c hc
  · decide
  · exact dec_line _ c hc
theorem hdr_line (s d sp dp pr : Nat) : ∀ c ∈ hdrT s d sp dp pr, c.toNat ≠ 10 := by
  intro c hc
  unfold hdrT at hc
  simp only [List.mem_append, List.mem_cons] at hc
  rcases hc with hc | rfl | hc | rfl | hc | rfl | hc | rfl | hc
  · exact addr_line _ c hc
  · decide
  · exact addr_line _ c hc
  · decide
  · exact dec_line _ c hc
  · decide
  · exact dec_line _ c hc
  · decide
  · exact dec_line _ c hc
theorem h32 {x : UInt8} {l : List UInt8} (h : (32 :: l).head? = some x) (k : Nat) (hk : k ≠ 0) : kindB x ≠ k := by
  simp only [List.head?_cons, Option.some.injEq] at h
  subst h
  show (0 : Nat) ≠ k
  omega
theorem h10 {x : UInt8} {l : List UInt8} (h : (10 :: l).head? = some x) (k : Nat) (hk : k ≠ 0) : kindB x ≠ k := by
  simp only [List.head?_cons, Option.some.injEq] at h
  subst h
  show (0 : Nat) ≠ k
  omega
theorem ask_ln : ∀ c ∈ kAsk, c.toNat ≠ 10 := by decide
theorem ask_lex {s d sp dp pr : Nat} (hs : s < 4294967296) (hd : d < 4294967296) (hsp : sp < 65536) (hdp : dp < 65536) (hpr : pr < 256) :
    ∃ t r t5, lexM (askT s d sp dp pr) = some (.ok (t :: r)) ∧ isWrd t kAsk ∧ askR r = .ok (hdN s d sp dp pr, [t5]) ∧ t5.kind = 4 := by
  have hL : Lexes (askT s d sp dp pr) 1 0 fun ts => ∃ t r t5, ts = t :: r ∧ isWrd t kAsk ∧ askR r = .ok (hdN s d sp dp pr, [t5]) ∧ t5.kind = 4 := by
    unfold askT hdrT
    simp only [List.append_assoc, List.cons_append]
    refine lex_word (by decide) (by decide) (by decide) (fun x hx => h32 hx 1 (by omega)) fun _ => lex_blank rfl ?_
    refine lex_addr hs (fun x hx => h32 hx 2 (by omega)) fun _ => lex_blank rfl ?_
    refine lex_addr hd (fun x hx => h32 hx 2 (by omega)) fun _ => lex_blank rfl ?_
    refine lex_num (by omega) (fun x hx => h32 hx 2 (by omega)) fun _ => lex_blank rfl ?_
    refine lex_num (by omega) (fun x hx => h32 hx 2 (by omega)) fun _ => lex_blank rfl ?_
    refine lex_num (by omega) (fun x hx => h10 hx 2 (by omega)) fun _ => ?_
    refine lex_end (by decide) (lex_stop ?_)
    intro t5 h5 n3 i3 n2 i2 n1 i1 ta la ka ra tb lb kb rb w iw
    refine ⟨w, _, t5, rfl, iw, ?_, h5⟩
    unfold askR
    rw [rb]
    simp only [Lx.thenR]
    rw [ra]
    simp only [Lx.thenR]
    rw [num_ok i1 (by omega)]
    simp only [Lx.thenR]
    rw [num_ok i2 (by omega)]
    simp only [Lx.thenR]
    rw [num_ok i3 (by omega)]
    simp only [Lx.thenR]
    rw [u16w sp hsp, u16w dp hdp, u8w pr, Nat.mod_eq_of_lt hpr]
    rfl
  have hlen := hdrT_len hs hd hsp hdp hpr
  have hll : (askT s d sp dp pr).length = (hdrT s d sp dp pr).length + 5 := by unfold askT kAsk; simp
  obtain ⟨ts, h1, t, r, t5, rfl, h2, h3, h4⟩ := hL.read (by omega) (by
    unfold askT
    rw [line_app _ _ (fun c hc => by
      rcases List.mem_append.1 hc with hc | hc
      · exact ask_ln c hc
      · rcases List.mem_cons.1 hc with rfl | hc
        · decide
        · exact hdr_line _ _ _ _ _ c hc)]
    simp [kAsk]
    omega)
  exact ⟨t, r, t5, h1, h2, h3, h4⟩
theorem TopAsks_s {h : Hp} (t : Tab h) (s d sp dp pr : Nat) (hs : s < 4294967296) (hd : d < 4294967296) (hsp : sp < 65536) (hdp : dp < 65536) (hpr : pr < 256) {K : Value → Hp → Prop} (H : ∀ h', Ext h h' → K (.bool true) h') :
    CallsH Tryz.prog 4 #[.agg (hdE s d sp dp pr).toArray] h K := by
  refine quintettop_TopAsks_ok _ _ _ _ _ ?_
  unfold quintettop_TopAsks
  have hlen := hdrT_len hs hd hsp hdp hpr
  refine newC_i (cs := hdE s d sp dp pr) fun h1 e1 c1 b1 z1 => ?_
  refine ⟨_, _, _, _, _, ldS (vs := hdE s d sp dp pr) c1 (by kernel_rfl), ?_⟩
  refine Pack_s s d sp dp pr fun h2 A c e2 r2 hc ho => ⟨_, _, _, rfl, ?_⟩
  refine Unpack_s s d sp dp pr hs hd hsp hdp r2 hc fun h3 e3 => ⟨_, _, _, _, _, _, rfl, ?_⟩
  refine newV (us := hdE s d sp dp pr) rfl rfl (by kernel_rfl) rfl fun h4 e4 c4 b4 z4 => ?_
  refine ⟨_, _, _, _, _, ldS (vs := hdE s d sp dp pr) c4 (by kernel_rfl), ?_⟩
  have E4 : Ext h h4 := ((e1.trans e2).trans e3).trans e4
  refine PrintHeader_s (t.ext E4) s d sp dp pr hs hd hsp hdp hpr fun h5 e5 => ⟨_, rfl, _, addS [97, 115, 107, 32] _ (by decide) (by omega), _, addS _ [10] (by simp; omega) (by decide), ?_⟩
  obtain ⟨tk, r, t5, hl, hw, hR, h5k⟩ := ask_lex hs hd hsp hdp hpr
  refine Script_s (s := askT s d sp dp pr) hl hw hR h5k fun h6 A6 c6 e6 r6 f6 => ⟨_, _, _, _, rfl, ?_⟩
  refine ⟨false, fun w => pureRun_run _ _ _ (by kernel_rfl) w, br_f rfl (br_f (by decide) ?_)⟩
  unfold quintettop_TopAsks_j1
  have E6 : Ext h h6 := (E4.trans e5).trans e6
  refine PrintScript_s (t.ext E6) s d sp dp pr hs hd hsp hdp hpr r6 fun h7 e7 => ⟨_, _, rfl, ?_⟩
  refine reads_s fun h8 e8 => ⟨_, rfl, br_t rfl (br_t (by decide) (br_t (by decide) ?_))⟩
  have r8 := (r6.ext e7).ext e8
  obtain ⟨a, ha, _, pv, cl⟩ := ixR (P := Tryz.prog) (T := 63) (E := 77) (enc := encA) (sz := 20) (xs := [hdN s d sp dp pr]) (h := h8) (A := A6) (l := 1) (c := c6) (k := .i64) (i := 0) (x := hdN s d sp dp pr) (fun _ => rfl) r8.read rfl undCmds (by kernel_rfl) rfl
  refine ⟨a, pv, _, ld (cl.at_ 0 _ rfl) (by kernel_rfl), br_t (by decide) ⟨a, pv, ?_⟩⟩
  have cg : Cl h8 (a.add 15) (hdE s d sp dp pr) := cl.sub 15 fun j v hj => by
    match j, hj with
    | 0, hj => exact hj
    | 1, hj => exact hj
    | 2, hj => exact hj
    | 3, hj => exact hj
    | 4, hj => exact hj
  have c8 : Cl h8 ⟨h.size, 0, none⟩ (hdE s d sp dp pr) := c1.ext ((((((e2.trans e3).trans e4).trans e5).trans e6).trans e7).trans e8)
  refine ⟨_, _, _, _, _, ldS (vs := hdE s d sp dp pr) cg (by kernel_rfl), _, _, _, _, _, ldS (vs := hdE s d sp dp pr) c8 (by kernel_rfl), _, eqHd (hdN s d sp dp pr), br_t rfl (br_t (by decide) ?_)⟩
  have hK := H h8 ((E6.trans e7).trans e8)
  have e : ((bs (askT s d sp dp pr)).toList == (bs ([97, 115, 107, 32] ++ hdrT s d sp dp pr ++ [10])).toList) = true := by
    have : askT s d sp dp pr = [97, 115, 107, 32] ++ hdrT s d sp dp pr ++ [10] := rfl
    rw [this]
    simp
  rw [e]
  exact hK
end Go.Proofs.YtfdpccbajaiepaaGreatDoor.Pr

/- Arguments laid open: flat structs of whole numbers (nested, any number of fields), and slices of them, as the heap alone tells them. -/
namespace Go.Proofs.YtfdpccbajaiepaaGreatDoor.Sx
open Go Go.RowKit Go.ChangeShapes Go.WideShapes Go.Deep
set_option linter.unusedVariables false

def flatFields (P : Program) (g : TypeId → Option (List IntKind)) : List Field → Nat → Option (List IntKind)
  | [], _ => some []
  | f :: r, off => match g f.type with
    | some ks => if f.offset = off ∧ P.cellsOf f.type = ks.length then (flatFields P g r (off + ks.length)).map (ks ++ ·) else none
    | none => none
/-- The kinds of a type's cells, where all are whole numbers. -/
def flatKinds (P : Program) : Nat → TypeId → Option (List IntKind)
  | 0, _ => none
  | n + 1, t => match P.underlying t with
    | some (.int k) => some [k]
    | some (.struct fs) => match flatFields P (flatKinds P n) fs.toList 0 with
      | some ks => if P.cellsOf t = ks.length then some ks else none
      | none => none
    | _ => none
section
variable {H : Type} {enc : TypeId × Value → H} {P : Program} {w : World} {base : Nat} {spare : Nat → Bool} {held : Bool}
theorem flat_fields {g : TypeId → Option (List IntKind)} {cs : List Value} {n : Nat}
    (hg : ∀ t ks cs x, g t = some ks → DataW.trod enc P w base spare held n t cs = some x → ∃ ns : List Int, ns.length = ks.length ∧ cs = List.zipWith Value.int ks ns ∧ ∀ p ∈ ks.zip ns, (Lit.int p.1 p.2).wf = true) :
    ∀ (L : List Field) (off : Nat) (ks : List IntKind), flatFields P g L off = some ks → (∀ f ∈ L, ∃ y, DataW.trod enc P w base spare held n f.type ((cs.drop f.offset).take (P.cellsOf f.type)) = some y) →
      ∃ ns : List Int, ns.length = ks.length ∧ (cs.drop off).take ks.length = List.zipWith Value.int ks ns ∧ ∀ p ∈ ks.zip ns, (Lit.int p.1 p.2).wf = true
  | [], off, ks, h, _ => by
    simp only [flatFields, Option.some.injEq] at h
    subst h
    exact ⟨[], rfl, by simp, by simp⟩
  | f :: r, off, ks, h, hf => by
    unfold flatFields at h
    cases hk : g f.type with
    | none => rw [hk] at h; cases h
    | some k0 =>
      rw [hk] at h
      simp only at h
      split at h
      · rename_i hc
        obtain ⟨h1, h2⟩ := hc
        obtain ⟨k1, hk1, rfl⟩ := Option.map_eq_some_iff.1 h
        obtain ⟨y, hy⟩ := hf f List.mem_cons_self
        obtain ⟨ns0, l0, e0, w0⟩ := hg _ _ _ _ hk hy
        obtain ⟨ns1, l1, e1, w1⟩ := flat_fields hg r _ k1 hk1 (fun f' hf' => hf f' (List.mem_cons_of_mem _ hf'))
        refine ⟨ns0 ++ ns1, by simp [l0, l1], ?_, ?_⟩
        · rw [h1, h2] at e0
          rw [List.zipWith_append (by rw [l0]), ← e0, ← e1, List.length_append, List.take_add, List.drop_drop]
        · intro p hp
          rw [List.zip_append (by rw [l0])] at hp
          rcases List.mem_append.1 hp with hp | hp
          · exact w0 p hp
          · exact w1 p hp
      · cases h
theorem flat_open : ∀ (n : Nat) (t : TypeId) (ks : List IntKind) (fuel : Nat) (cs : List Value) (x : DataW H × List MemPlace), flatKinds P n t = some ks → DataW.trod enc P w base spare held fuel t cs = some x →
    ∃ ns : List Int, ns.length = ks.length ∧ cs = List.zipWith Value.int ks ns ∧ ∀ p ∈ ks.zip ns, (Lit.int p.1 p.2).wf = true
  | 0, _, _, _, _, _, h, _ => by cases h
  | n + 1, t, ks, fuel, cs, x, h, hx => by
    unfold flatKinds at h
    split at h
    · rename_i k hu
      simp only [Option.some.injEq] at h
      subst h
      obtain ⟨m, rfl, _, hw⟩ := DataW.trod_int hu hx
      exact ⟨[m], rfl, rfl, by simpa using hw⟩
    · rename_i fs hu
      split at h
      · rename_i k0 hk0
        split at h
        · rename_i hc
          simp only [Option.some.injEq] at h
          subst h
          obtain ⟨xs, m, rfl, _, hlen, hxl, hf⟩ := DataW.trod_struct hu hx
          obtain ⟨ns, l, e, w⟩ := flat_fields (cs := cs) (n := m) (fun t' ks' cs' x' h' hx' => flat_open n t' ks' m cs' x' h' hx') fs.toList 0 k0 hk0 (fun f hf' => by
            obtain ⟨i, hi, rfl⟩ := List.mem_iff_getElem.1 hf'
            have hi' : i < xs.length := by rw [hxl]; simpa using hi
            refine ⟨xs[i], ?_⟩
            rw [hf i _ (by simp at hi ⊢)]
            exact List.getElem?_eq_getElem hi')
          refine ⟨ns, l, ?_, w⟩
          rw [← e, List.drop_zero, List.take_of_length_le (Nat.le_of_eq (hlen.trans hc))]
        · cases h
      · cases h
    · cases h
/-- A flat struct as an argument. -/
theorem open_flat {r : Reach} {b0 : Nat} {t : TypeId} {fs : Array Field} {v : Value} {d : DataW H} {p : List MemPlace} (n : Nat) (ks : List IntKind) (hs : P.underlying t = some (.struct fs)) (hk : flatKinds P n t = some ks)
    (hv : Value.okWide P w r b0 t v) (h : DataW.Trod enc P w base spare held t v d p) :
    ∃ ns : List Int, ns.length = ks.length ∧ v = .agg (List.zipWith Value.int ks ns).toArray ∧ ∀ p ∈ ks.zip ns, (Lit.int p.1 p.2).wf = true := by
  obtain ⟨cs, rfl, _⟩ := okWide_struct hs hv
  obtain ⟨fuel, hf⟩ := h
  obtain ⟨ns, l, e, w⟩ := flat_open n t ks fuel _ _ hk hf
  refine ⟨ns, l, ?_, w⟩
  rw [← e]
  simp [Value.cells]
/-- A slice of flat structs as an argument: its rows of numbers. -/
theorem open_rows {r : Reach} {b0 : Nat} {t e : TypeId} {v : Value} {dd : DataW H} {p : List MemPlace} (n : Nat) (ks : List IntKind) (hs : P.underlying t = some (.slice e)) (hk : flatKinds P n e = some ks) (hC : P.cellsOf e = ks.length) (h0 : 0 < ks.length)
    (hv : Value.okWide P w r b0 t v) (h : DataW.Trod enc P w base spare held t v dd p) :
    ∃ (A : Option Addr) (l : List (List Int)) (cap : Nat), v = .slice A l.length cap ∧ RSl w.heap A l.length ks.length (l.flatMap (List.zipWith Value.int ks)) ∧ l.length ≤ cap ∧ cap ≤ maxLen ∧ ∀ ns ∈ l, ns.length = ks.length ∧ ∀ p ∈ ks.zip ns, (Lit.int p.1 p.2).wf = true := by
  obtain ⟨a0, len, cap, rfl⟩ := okWide_slice hs hv
  obtain ⟨fuel, hf⟩ := h
  rcases open_slice hs hf with ⟨hcs, _⟩ | ⟨a, len', cap', m, q, D, Pl, hcs, hb, hl, hm, hmm, hx, hi⟩
  · simp [Value.cells] at hcs
    obtain ⟨rfl, rfl, rfl⟩ := hcs
    exact ⟨none, [], 0, rfl, ⟨by simp, .inl rfl⟩, Nat.le_refl _, by simp, by simp⟩
  · simp [Value.cells] at hcs
    obtain ⟨rfl, rfl, rfl⟩ := hcs
    have hml : len ≤ m := by rw [hmm]; split <;> omega
    have hel : ∀ i, i < len → ∃ ns : List Int, ns.length = ks.length ∧ (∀ p ∈ ks.zip ns, (Lit.int p.1 p.2).wf = true) ∧ ∀ j u, (List.zipWith Value.int ks ns)[j]? = some u → w.cell? (a.add (i * ks.length + j)) = some u := by
      intro i hil
      obtain ⟨cs', hc, ht⟩ := hi i (by omega)
      obtain ⟨ns, l, e', w'⟩ := flat_open n e ks q _ _ hk ht
      refine ⟨ns, l, w', fun j u hj => ?_⟩
      obtain ⟨_, hcl, hat⟩ := World.cells?_some hc
      rw [hC] at hat hcl
      rw [← e'] at hj
      have hjl : j < ks.length := by
        have := (List.getElem?_eq_some_iff.1 hj).1
        omega
      have := hat j hjl
      rw [← Go.Deep.add_add, this]
      exact hj
    obtain ⟨f, hf⟩ : ∃ f : Nat → List Int, ∀ i, i < len → (f i).length = ks.length ∧ (∀ p ∈ ks.zip (f i), (Lit.int p.1 p.2).wf = true) ∧ ∀ j u, (List.zipWith Value.int ks (f i))[j]? = some u → w.cell? (a.add (i * ks.length + j)) = some u :=
      ⟨fun i => if h : i < len then Classical.choose (hel i h) else [], fun i h => by simp only [dif_pos h]; exact Classical.choose_spec (hel i h)⟩
    refine ⟨some a, (List.range len).map f, cap, by simp, ⟨?_, ?_⟩, by simpa using hl, hm, fun x hx => ?_⟩
    · have : ∀ L : List Nat, (∀ i ∈ L, i < len) → ((L.map f).flatMap (List.zipWith Value.int ks)).length = L.length * ks.length := by
        intro L
        induction L with
        | nil => intro _; simp
        | cons i L ih =>
          intro hL
          rw [List.map_cons, List.flatMap_cons, List.length_append, ih (fun j hj => hL j (List.mem_cons_of_mem _ hj)), List.length_zipWith, (hf i (hL i List.mem_cons_self)).1, List.length_cons, Nat.add_mul]
          simp; omega
      rw [this _ (fun i hi => List.mem_range.1 hi)]
      simp
    · rcases Nat.eq_zero_or_pos len with hz | hz
      · left; simpa using hz
      · right
        refine ⟨a, rfl, ?_, fun j u hj => ?_⟩
        · have hi0 := (hf 0 hz).2.2 0
          have hlen0 := (hf 0 hz).1
          have hg : (List.zipWith Value.int ks (f 0))[0]? = some ((List.zipWith Value.int ks (f 0))[0]'(by simp; omega)) := List.getElem?_eq_getElem _
          have hc := hi0 _ hg
          rw [Nat.zero_mul, Nat.zero_add] at hc
          show a.spot = none
          have hc' : w.cell? a = _ := hc
          unfold World.cell? at hc'
          split at hc'
          · cases hsp : a.spot with
            | none => rfl
            | some s => rw [hsp] at hc'; cases hc'
          · cases hc'
        · have key : ∀ (L : List Nat) (b j : Nat) (u : Value), (∀ q i, L[q]? = some i → i = b + q ∧ i < len) → ((L.map f).flatMap (List.zipWith Value.int ks))[j]? = some u → w.cell? (a.add (b * ks.length + j)) = some u := by
            intro L
            induction L with
            | nil => intro b j u _ hj; simp at hj
            | cons i L ih =>
              intro b j u hL hj
              obtain ⟨hib, hil⟩ := hL 0 i rfl
              rw [Nat.add_zero] at hib
              subst hib
              have hzl : (List.zipWith Value.int ks (f i)).length = ks.length := by rw [List.length_zipWith, (hf i hil).1]; simp
              rw [List.map_cons, List.flatMap_cons] at hj
              by_cases hjl : j < ks.length
              · rw [List.getElem?_append_left (by omega)] at hj
                exact (hf i hil).2.2 j u hj
              · rw [List.getElem?_append_right (by omega), hzl] at hj
                have := ih (i + 1) (j - ks.length) u (fun q i' hq => by
                  obtain ⟨h1, h2⟩ := hL (q + 1) i' (by simpa using hq)
                  exact ⟨by omega, h2⟩) hj
                rw [Nat.add_mul, Nat.one_mul] at this
                rw [← this]
                congr 2
                omega
          have := key (List.range len) 0 j u (fun q i hq => by
            have := List.getElem?_eq_some_iff.1 hq
            simp at this
            omega) hj
          rw [Nat.zero_mul, Nat.zero_add] at this
          exact this
    · obtain ⟨i, hi', rfl⟩ := List.mem_map.1 hx
      exact ⟨(hf i (List.mem_range.1 hi')).1, (hf i (List.mem_range.1 hi')).2.1⟩
end
theorem len_succ {l : List Int} {n : Nat} (h : l.length = n + 1) : ∃ a t, l = a :: t ∧ t.length = n := by
  cases l with
  | nil => cases h
  | cons a t => exact ⟨a, t, rfl, by simpa using h⟩
theorem len_zero {l : List Int} (h : l.length = 0) : l = [] := List.eq_nil_of_length_eq_zero h
theorem wf_u8 {x : Int} (h : (Lit.int .u8 x).wf = true) : 0 ≤ x ∧ x ≤ 255 := by simpa [Lit.wf, IntKind.min, IntKind.max, IntKind.signed, IntKind.bits] using h
theorem wf_u16 {x : Int} (h : (Lit.int .u16 x).wf = true) : 0 ≤ x ∧ x ≤ 65535 := by simpa [Lit.wf, IntKind.min, IntKind.max, IntKind.signed, IntKind.bits] using h
theorem wf_u32 {x : Int} (h : (Lit.int .u32 x).wf = true) : 0 ≤ x ∧ x ≤ 4294967295 := by simpa [Lit.wf, IntKind.min, IntKind.max, IntKind.signed, IntKind.bits] using h
theorem wf_i64 {x : Int} (h : (Lit.int .i64 x).wf = true) : -9223372036854775808 ≤ x ∧ x ≤ 9223372036854775807 := by simpa [Lit.wf, IntKind.min, IntKind.max, IntKind.signed, IntKind.bits] using h
/-- A call that comes back true, and leaves what was there: as the rows ask it. -/
theorem walk_of {P : Program} {f : FuncId} {args : Array Value} {W : World} (h : CallsH P f args W.heap (fun v h' => v = .bool true ∧ Ext W.heap h')) : Calls P f args W fun e w' => e = .returned (.bool true) ∧ Below W.heap.size W w' :=
  (h W rfl).mono fun e w' ⟨v, he, hs, hv, hx⟩ => ⟨by rw [he, hv], ⟨hs.os, hs.tape, hs.output, hx.size, fun k hk => hx.old k hk⟩⟩
end Go.Proofs.YtfdpccbajaiepaaGreatDoor.Sx

/-
TopAsks: any header, packed as bytes and written as the text of a question, is the same header again.
Conditions: none beyond the statement's own (the listed variables read as the row lists them).
-/
namespace Go.Proofs.YtfdpccbajaiepaaGreatDoor.PureTopAsks
open Go Go.RowKit Go.Proofs.YtfdpccbajaiepaaGreatDoor.Sx Go.Proofs.YtfdpccbajaiepaaGreatDoor.Pr
set_option linter.unusedVariables false
theorem tab_row : (Rows.laid_internal_strconv_uint64pow10 : DataW Unit) = Lib.tabData .u64 Lib.pow10Tab := by kernel_rfl
theorem tab_laid {W : World} (hL : laidMetH Tryz.prog Rows.topAsksRow.laid W) : Tab W.heap := by
  have h0 : laidMet Tryz.prog [("math/bits.deBruijn32tab", Rows.laid_math_bits_deBruijn32tab), ("math/bits.deBruijn64tab", Rows.laid_math_bits_deBruijn64tab), ("internal/strconv.uint64pow10", Rows.laid_internal_strconv_uint64pow10)] W ∧ handlesMet Tryz.prog [("errors.errorType", Rows.laid_errors_errorType)] W := hL
  have h : laidMet Tryz.prog [("internal/strconv.uint64pow10", Rows.laid_internal_strconv_uint64pow10)] W := h0.1.tail.tail
  rw [tab_row] at h
  exact tab_of (Lib.tabIs_of_head (t := 201) (e := 128) (n := 20) glob (by kernel_rfl) (by kernel_rfl) (by kernel_rfl) (by kernel_rfl) (by kernel_rfl) h)
theorem walk {W : World} (a b c d e : Int) (wa : (Lit.int .u32 a).wf = true) (wb : (Lit.int .u32 b).wf = true) (wc : (Lit.int .u16 c).wf = true) (wd : (Lit.int .u16 d).wf = true) (we : (Lit.int .u8 e).wf = true) (hL : laidMetH Tryz.prog Rows.topAsksRow.laid W) :
    Calls Tryz.prog 4 #[.agg #[.int .u32 a, .int .u32 b, .int .u16 c, .int .u16 d, .int .u8 e]] W fun e w' => e = .returned (.bool true) ∧ Below W.heap.size W w' := by
  simp [Lit.wf, IntKind.min, IntKind.max, IntKind.bits, IntKind.signed] at wa wb wc wd we
  obtain ⟨s, rfl⟩ := Int.eq_ofNat_of_zero_le wa.1
  obtain ⟨d', rfl⟩ := Int.eq_ofNat_of_zero_le wb.1
  obtain ⟨sp, rfl⟩ := Int.eq_ofNat_of_zero_le wc.1
  obtain ⟨dp, rfl⟩ := Int.eq_ofNat_of_zero_le wd.1
  obtain ⟨pr, rfl⟩ := Int.eq_ofNat_of_zero_le we.1
  exact walk_of (TopAsks_s (tab_laid hL) s d' sp dp pr (by omega) (by omega) (by omega) (by omega) (by omega) fun h' e => ⟨rfl, e⟩)
end Go.Proofs.YtfdpccbajaiepaaGreatDoor.PureTopAsks

/- Arguments laid open: structs of whole numbers and slices (nested). -/
namespace Go.Proofs.YtfdpccbajaiepaaGreatDoor.Sx
open Go Go.RowKit Go.ChangeShapes Go.WideShapes Go.Deep
set_option linter.unusedVariables false
/-- Cells by their kinds: a whole number of a kind, or a slice. -/
inductive Fits : List (Option IntKind) → List Value → Prop where
  | nil : Fits [] []
  | int (k : IntKind) (n : Int) {ks : List (Option IntKind)} {cs : List Value} (w : (Lit.int k n).wf = true) (r : Fits ks cs) : Fits (some k :: ks) (.int k n :: cs)
  | sl (A : Option Addr) (l c : Nat) {ks : List (Option IntKind)} {cs : List Value} (r : Fits ks cs) : Fits (none :: ks) (.slice A l c :: cs)
theorem Fits.append : ∀ {ks : List (Option IntKind)} {cs : List Value} {ks' : List (Option IntKind)} {cs' : List Value}, Fits ks cs → Fits ks' cs' → Fits (ks ++ ks') (cs ++ cs')
  | _, _, _, _, .nil, h' => h'
  | _, _, _, _, .int k n w r, h' => .int k n w (r.append h')
  | _, _, _, _, .sl A l c r, h' => .sl A l c (r.append h')
theorem Fits.len : ∀ {ks : List (Option IntKind)} {cs : List Value}, Fits ks cs → cs.length = ks.length
  | _, _, .nil => rfl
  | _, _, .int k n w r => by simp [r.len]
  | _, _, .sl A l c r => by simp [r.len]
def mixFields (P : Program) (g : TypeId → Option (List (Option IntKind))) : List Field → Nat → Option (List (Option IntKind))
  | [], _ => some []
  | f :: r, off => match g f.type with
    | some ks => if f.offset = off ∧ P.cellsOf f.type = ks.length then (mixFields P g r (off + ks.length)).map (ks ++ ·) else none
    | none => none
def mixKinds (P : Program) : Nat → TypeId → Option (List (Option IntKind))
  | 0, _ => none
  | n + 1, t => match P.underlying t with
    | some (.int k) => some [some k]
    | some (.slice _) => some [none]
    | some (.struct fs) => match mixFields P (mixKinds P n) fs.toList 0 with
      | some ks => if P.cellsOf t = ks.length then some ks else none
      | none => none
    | _ => none
section
variable {H : Type} {enc : TypeId × Value → H} {P : Program} {w : World} {base : Nat} {spare : Nat → Bool} {held : Bool}
theorem mix_fields {g : TypeId → Option (List (Option IntKind))} {cs : List Value} {n : Nat}
    (hg : ∀ t ks cs x, g t = some ks → DataW.trod enc P w base spare held n t cs = some x → Fits ks cs) :
    ∀ (L : List Field) (off : Nat) (ks : List (Option IntKind)), mixFields P g L off = some ks → (∀ f ∈ L, ∃ y, DataW.trod enc P w base spare held n f.type ((cs.drop f.offset).take (P.cellsOf f.type)) = some y) →
      Fits ks ((cs.drop off).take ks.length)
  | [], off, ks, h, _ => by
    simp only [mixFields, Option.some.injEq] at h
    subst h
    simpa using Fits.nil
  | f :: r, off, ks, h, hf => by
    unfold mixFields at h
    cases hk : g f.type with
    | none => rw [hk] at h; cases h
    | some k0 =>
      rw [hk] at h
      simp only at h
      split at h
      · rename_i hc
        obtain ⟨h1, h2⟩ := hc
        obtain ⟨k1, hk1, rfl⟩ := Option.map_eq_some_iff.1 h
        obtain ⟨y, hy⟩ := hf f List.mem_cons_self
        have e0 := hg _ _ _ _ hk hy
        have e1 := mix_fields hg r _ k1 hk1 (fun f' hf' => hf f' (List.mem_cons_of_mem _ hf'))
        rw [h1, h2] at e0
        rw [List.length_append, List.take_add, List.drop_drop]
        exact e0.append e1
      · cases h
theorem mix_open : ∀ (n : Nat) (t : TypeId) (ks : List (Option IntKind)) (fuel : Nat) (cs : List Value) (x : DataW H × List MemPlace), mixKinds P n t = some ks → DataW.trod enc P w base spare held fuel t cs = some x → Fits ks cs
  | 0, _, _, _, _, _, h, _ => by cases h
  | n + 1, t, ks, fuel, cs, x, h, hx => by
    unfold mixKinds at h
    split at h
    · rename_i k hu
      simp only [Option.some.injEq] at h
      subst h
      obtain ⟨m, rfl, _, hw⟩ := DataW.trod_int hu hx
      exact .int k m hw .nil
    · rename_i e hu
      simp only [Option.some.injEq] at h
      subst h
      rcases open_slice hu hx with ⟨hcs, _⟩ | ⟨a, len', cap', m, q, D, Pl, hcs, _⟩
      · rw [hcs]; exact .sl _ _ _ .nil
      · rw [hcs]; exact .sl _ _ _ .nil
    · rename_i fs hu
      split at h
      · rename_i k0 hk0
        split at h
        · rename_i hc
          simp only [Option.some.injEq] at h
          subst h
          obtain ⟨xs, m, rfl, _, hlen, hxl, hf⟩ := DataW.trod_struct hu hx
          have e := mix_fields (cs := cs) (n := m) (fun t' ks' cs' x' h' hx' => mix_open n t' ks' m cs' x' h' hx') fs.toList 0 k0 hk0 (fun f hf' => by
            obtain ⟨i, hi, rfl⟩ := List.mem_iff_getElem.1 hf'
            have hi' : i < xs.length := by rw [hxl]; simpa using hi
            refine ⟨xs[i], ?_⟩
            rw [hf i _ (by simp at hi ⊢)]
            exact List.getElem?_eq_getElem hi')
          rw [List.drop_zero, List.take_of_length_le (Nat.le_of_eq (hlen.trans hc))] at e
          exact e
        · cases h
      · cases h
    · cases h
/-- A struct with slices as an argument. -/
theorem open_mix {r : Reach} {b0 : Nat} {t : TypeId} {fs : Array Field} {v : Value} {d : DataW H} {p : List MemPlace} (n : Nat) (ks : List (Option IntKind)) (hs : P.underlying t = some (.struct fs)) (hk : mixKinds P n t = some ks)
    (hv : Value.okWide P w r b0 t v) (h : DataW.Trod enc P w base spare held t v d p) : ∃ cs : List Value, Fits ks cs ∧ v = .agg cs.toArray := by
  obtain ⟨cs, rfl, _⟩ := okWide_struct hs hv
  obtain ⟨fuel, hf⟩ := h
  have e := mix_open n t ks fuel _ _ hk hf
  exact ⟨_, e, by simp [Value.cells]⟩
end
theorem Fits.int_inv {k : IntKind} {ks : List (Option IntKind)} {cs : List Value} (h : Fits (some k :: ks) cs) : ∃ n cs', cs = .int k n :: cs' ∧ (Lit.int k n).wf = true ∧ Fits ks cs' := by
  cases h with
  | int k n w r => exact ⟨n, _, rfl, w, r⟩
theorem Fits.sl_inv {ks : List (Option IntKind)} {cs : List Value} (h : Fits (none :: ks) cs) : ∃ A l c cs', cs = .slice A l c :: cs' ∧ Fits ks cs' := by
  cases h with
  | sl A l c r => exact ⟨A, l, c, _, rfl, r⟩
theorem Fits.nil_inv {cs : List Value} (h : Fits [] cs) : cs = [] := by
  cases h; rfl
end Go.Proofs.YtfdpccbajaiepaaGreatDoor.Sx

/- Arguments laid open: slices of structs that hold slices of flat structs. -/
namespace Go.Proofs.YtfdpccbajaiepaaGreatDoor.Sx
open Go Go.RowKit Go.ChangeShapes Go.WideShapes Go.Deep
set_option linter.unusedVariables false
/-- Cells by their kinds: a whole number of a kind, or a slice of rows of numbers. -/
inductive Fits2 (h : Hp) : List (IntKind ⊕ List IntKind) → List Value → Prop where
  | nil : Fits2 h [] []
  | int (k : IntKind) (n : Int) {ks : List (IntKind ⊕ List IntKind)} {cs : List Value} (w : (Lit.int k n).wf = true) (r : Fits2 h ks cs) : Fits2 h (.inl k :: ks) (.int k n :: cs)
  | sl (A : Option Addr) (rows : List (List Int)) (c : Nat) {qs : List IntKind} {ks : List (IntKind ⊕ List IntKind)} {cs : List Value} (hr : RSl h A rows.length qs.length (rows.flatMap (List.zipWith Value.int qs))) (hc : rows.length ≤ c)
      (wf : ∀ ns ∈ rows, ns.length = qs.length ∧ ∀ p ∈ qs.zip ns, (Lit.int p.1 p.2).wf = true) (r : Fits2 h ks cs) : Fits2 h (.inr qs :: ks) (.slice A rows.length c :: cs)
theorem Fits2.append {h : Hp} : ∀ {ks : List (IntKind ⊕ List IntKind)} {cs : List Value} {ks' : List (IntKind ⊕ List IntKind)} {cs' : List Value}, Fits2 h ks cs → Fits2 h ks' cs' → Fits2 h (ks ++ ks') (cs ++ cs')
  | _, _, _, _, .nil, h' => h'
  | _, _, _, _, .int k n w r, h' => .int k n w (r.append h')
  | _, _, _, _, .sl A l c hr hc wf r, h' => .sl A l c hr hc wf (r.append h')
theorem Fits2.len {h : Hp} : ∀ {ks : List (IntKind ⊕ List IntKind)} {cs : List Value}, Fits2 h ks cs → cs.length = ks.length
  | _, _, .nil => rfl
  | _, _, .int k n w r => by simp [r.len]
  | _, _, .sl A l c hr hc wf r => by simp [r.len]
def mix2Fields (P : Program) (g : TypeId → Option (List (IntKind ⊕ List IntKind))) : List Field → Nat → Option (List (IntKind ⊕ List IntKind))
  | [], _ => some []
  | f :: r, off => match g f.type with
    | some ks => if f.offset = off ∧ P.cellsOf f.type = ks.length then (mix2Fields P g r (off + ks.length)).map (ks ++ ·) else none
    | none => none
def mix2Kinds (P : Program) : Nat → TypeId → Option (List (IntKind ⊕ List IntKind))
  | 0, _ => none
  | n + 1, t => match P.underlying t with
    | some (.int k) => some [.inl k]
    | some (.slice e) => match flatKinds P n e with
      | some qs => if P.cellsOf e = qs.length ∧ 0 < qs.length then some [.inr qs] else none
      | none => none
    | some (.struct fs) => match mix2Fields P (mix2Kinds P n) fs.toList 0 with
      | some ks => if P.cellsOf t = ks.length then some ks else none
      | none => none
    | _ => none
section
variable {H : Type} {enc : TypeId × Value → H} {P : Program} {w : World} {base : Nat} {spare : Nat → Bool} {held : Bool}
/-- Rows of elements that are each laid open by a function of their own: as the heap tells them. -/
theorem rows_gen {a : Addr} {len C : Nat} {α : Type} {f : α → List Value} (hf : ∀ x, (f x).length = C) (l : List α) (hl : l.length = len) (h0 : 0 < len) (h0C : 0 < C)
    (hat : ∀ i x, l[i]? = some x → ∀ j u, (f x)[j]? = some u → w.cell? (a.add (i * C + j)) = some u) : RSl w.heap (some a) len C (l.flatMap f) := by
  subst hl
  refine ⟨flat_len hf l, .inr ⟨a, rfl, ?_, fun j u hj => ?_⟩⟩
  · have hx : l[0]? = some (l[0]'h0) := List.getElem?_eq_getElem _
    have hg : (f (l[0]'h0))[0]? = some ((f (l[0]'h0))[0]'(by rw [hf]; exact h0C)) := List.getElem?_eq_getElem _
    have hc := hat 0 _ hx 0 _ hg
    rw [Nat.zero_mul, Nat.zero_add] at hc
    have hc' : w.cell? a = _ := hc
    unfold World.cell? at hc'
    split at hc'
    · cases hsp : a.spot with
      | none => rfl
      | some s => rw [hsp] at hc'; cases hc'
    · cases hc'
  · have hjl : j < l.length * C := by rw [← flat_len hf l]; exact (List.getElem?_eq_some_iff.1 hj).1
    have hi : j / C < l.length := by rw [Nat.div_lt_iff_lt_mul h0C]; exact hjl
    have hm : j % C < C := Nat.mod_lt _ h0C
    have hx : l[j / C]? = some (l[j / C]'hi) := List.getElem?_eq_getElem _
    have e := flat_get hf l (j / C) (j % C) _ hx hm
    have hd : j / C * C + j % C = j := Nat.div_add_mod' j C
    rw [hd] at e
    rw [e] at hj
    have := hat _ _ hx _ _ hj
    rw [hd] at this
    exact this
theorem rows_open {t e : TypeId} {fuel : Nat} {cs : List Value} {x : DataW H × List MemPlace} (n : Nat) (ks : List IntKind) (hs : P.underlying t = some (.slice e)) (hk : flatKinds P n e = some ks) (hC : P.cellsOf e = ks.length) (h0 : 0 < ks.length) (hf : DataW.trod enc P w base spare held fuel t cs = some x) :
    ∃ (A : Option Addr) (l : List (List Int)) (cap : Nat), cs = [.slice A l.length cap] ∧ RSl w.heap A l.length ks.length (l.flatMap (List.zipWith Value.int ks)) ∧ l.length ≤ cap ∧ ∀ ns ∈ l, ns.length = ks.length ∧ ∀ p ∈ ks.zip ns, (Lit.int p.1 p.2).wf = true := by
  rcases open_slice hs hf with ⟨hcs, _⟩ | ⟨a, len, cap, m, q, D, Pl, hcs, hb, hl, hm, hmm, hx, hi⟩
  · exact ⟨none, [], 0, hcs, ⟨by simp, .inl rfl⟩, Nat.le_refl _, by simp⟩
  · have hml : len ≤ m := by rw [hmm]; split <;> omega
    have hel : ∀ i, i < len → ∃ ns : List Int, ns.length = ks.length ∧ (∀ p ∈ ks.zip ns, (Lit.int p.1 p.2).wf = true) ∧ ∀ j u, (List.zipWith Value.int ks ns)[j]? = some u → w.cell? (a.add (i * ks.length + j)) = some u := by
      intro i hil
      obtain ⟨cs', hc, ht⟩ := hi i (by omega)
      obtain ⟨ns, l, e', w'⟩ := flat_open n e ks q _ _ hk ht
      refine ⟨ns, l, w', fun j u hj => ?_⟩
      obtain ⟨_, hcl, hat⟩ := World.cells?_some hc
      rw [hC] at hat hcl
      rw [← e'] at hj
      have hjl : j < ks.length := by
        have := (List.getElem?_eq_some_iff.1 hj).1
        omega
      have := hat j hjl
      rw [← Go.Deep.add_add, this]
      exact hj
    obtain ⟨f, hf⟩ : ∃ f : Nat → List Int, ∀ i, i < len → (f i).length = ks.length ∧ (∀ p ∈ ks.zip (f i), (Lit.int p.1 p.2).wf = true) ∧ ∀ j u, (List.zipWith Value.int ks (f i))[j]? = some u → w.cell? (a.add (i * ks.length + j)) = some u :=
      ⟨fun i => if h : i < len then Classical.choose (hel i h) else [], fun i h => by simp only [dif_pos h]; exact Classical.choose_spec (hel i h)⟩
    have hlen : ((List.range len).map f).length = len := by simp
    have hmem : ∀ i x, ((List.range len).map f)[i]? = some x → i < len ∧ x = f i := fun i x hx => by
      have := List.getElem?_eq_some_iff.1 hx
      simp at this
      exact ⟨this.1, this.2.symm⟩
    refine ⟨some a, (List.range len).map f, cap, by rw [hlen]; exact hcs, ?_, by rw [hlen]; exact hl, fun x hx => ?_⟩
    · rw [hlen]
      rcases Nat.eq_zero_or_pos len with hz | hz
      · subst hz; exact ⟨by simp, .inl rfl⟩
      · -- the rows' lengths are told for those that are there
        let g : {ns : List Int // ns.length = ks.length} → List Value := fun ns => List.zipWith Value.int ks ns.1
        let F : List {ns : List Int // ns.length = ks.length} := (List.range len).pmap (fun i hi => ⟨f i, (hf i hi).1⟩) (fun i hi => List.mem_range.1 hi)
        have hF : F.flatMap g = ((List.range len).map f).flatMap (List.zipWith Value.int ks) := by
          rw [← List.flatMap_map (f := Subtype.val)]
          congr 1
          rw [List.map_pmap, List.pmap_eq_map]
        rw [← hF]
        refine rows_gen (f := g) (fun x => by simp [g, x.2]) F (by simp [F]) hz h0 (fun i x hx j u hj => ?_)
        have hx' := List.getElem?_eq_some_iff.1 hx
        obtain ⟨h1, h2⟩ := hx'
        simp only [F, List.length_pmap, List.length_range] at h1
        simp only [F, List.getElem_pmap, List.getElem_range] at h2
        subst h2
        exact (hf i h1).2.2 j u hj
    · obtain ⟨i, hi', rfl⟩ := List.mem_map.1 hx
      exact ⟨(hf i (List.mem_range.1 hi')).1, (hf i (List.mem_range.1 hi')).2.1⟩
theorem mix2_fields {g : TypeId → Option (List (IntKind ⊕ List IntKind))} {cs : List Value} {n : Nat}
    (hg : ∀ t ks cs x, g t = some ks → DataW.trod enc P w base spare held n t cs = some x → Fits2 w.heap ks cs) :
    ∀ (L : List Field) (off : Nat) (ks : List (IntKind ⊕ List IntKind)), mix2Fields P g L off = some ks → (∀ f ∈ L, ∃ y, DataW.trod enc P w base spare held n f.type ((cs.drop f.offset).take (P.cellsOf f.type)) = some y) →
      Fits2 w.heap ks ((cs.drop off).take ks.length)
  | [], off, ks, h, _ => by
    simp only [mix2Fields, Option.some.injEq] at h
    subst h
    simpa using Fits2.nil
  | f :: r, off, ks, h, hf => by
    unfold mix2Fields at h
    cases hk : g f.type with
    | none => rw [hk] at h; cases h
    | some k0 =>
      rw [hk] at h
      simp only at h
      split at h
      · rename_i hc
        obtain ⟨h1, h2⟩ := hc
        obtain ⟨k1, hk1, rfl⟩ := Option.map_eq_some_iff.1 h
        obtain ⟨y, hy⟩ := hf f List.mem_cons_self
        have e0 := hg _ _ _ _ hk hy
        have e1 := mix2_fields hg r _ k1 hk1 (fun f' hf' => hf f' (List.mem_cons_of_mem _ hf'))
        rw [h1, h2] at e0
        rw [List.length_append, List.take_add, List.drop_drop]
        exact e0.append e1
      · cases h
theorem mix2_open : ∀ (n : Nat) (t : TypeId) (ks : List (IntKind ⊕ List IntKind)) (fuel : Nat) (cs : List Value) (x : DataW H × List MemPlace), mix2Kinds P n t = some ks → DataW.trod enc P w base spare held fuel t cs = some x → Fits2 w.heap ks cs
  | 0, _, _, _, _, _, h, _ => by cases h
  | n + 1, t, ks, fuel, cs, x, h, hx => by
    unfold mix2Kinds at h
    split at h
    · rename_i k hu
      simp only [Option.some.injEq] at h
      subst h
      obtain ⟨m, rfl, _, hw⟩ := DataW.trod_int hu hx
      exact .int k m hw .nil
    · rename_i e hu
      split at h
      · rename_i qs hqs
        split at h
        · rename_i hc
          simp only [Option.some.injEq] at h
          subst h
          obtain ⟨A, l, cap, rfl, hr, hcap, wf⟩ := rows_open n qs hu hqs hc.1 hc.2 hx
          exact .sl A l cap hr hcap wf .nil
        · cases h
      · cases h
    · rename_i fs hu
      split at h
      · rename_i k0 hk0
        split at h
        · rename_i hc
          simp only [Option.some.injEq] at h
          subst h
          obtain ⟨xs, m, rfl, _, hlen, hxl, hf⟩ := DataW.trod_struct hu hx
          have e := mix2_fields (cs := cs) (n := m) (fun t' ks' cs' x' h' hx' => mix2_open n t' ks' m cs' x' h' hx') fs.toList 0 k0 hk0 (fun f hf' => by
            obtain ⟨i, hi, rfl⟩ := List.mem_iff_getElem.1 hf'
            have hi' : i < xs.length := by rw [hxl]; simpa using hi
            refine ⟨xs[i], ?_⟩
            rw [hf i _ (by simp at hi ⊢)]
            exact List.getElem?_eq_getElem hi')
          rw [List.drop_zero, List.take_of_length_le (Nat.le_of_eq (hlen.trans hc))] at e
          exact e
        · cases h
      · cases h
    · cases h
/-- A slice of such structs as an argument. -/
theorem open_rows2 {r : Reach} {b0 : Nat} {t e : TypeId} {v : Value} {dd : DataW H} {p : List MemPlace} (n : Nat) (ks : List (IntKind ⊕ List IntKind)) (hs : P.underlying t = some (.slice e)) (hk : mix2Kinds P n e = some ks) (hC : P.cellsOf e = ks.length) (h0 : 0 < ks.length)
    (hv : Value.okWide P w r b0 t v) (h : DataW.Trod enc P w base spare held t v dd p) :
    ∃ (A : Option Addr) (l : List {cs : List Value // Fits2 w.heap ks cs}) (cap : Nat), v = .slice A l.length cap ∧ RSl w.heap A l.length ks.length (l.flatMap (·.1)) := by
  obtain ⟨a0, len0, cap0, rfl⟩ := okWide_slice hs hv
  obtain ⟨fuel, hf⟩ := h
  rcases open_slice hs hf with ⟨hcs, _⟩ | ⟨a, len', cap', m, q, D, Pl, hcs, hb, hl, hm, hmm, hx, hi⟩
  · simp [Value.cells] at hcs
    obtain ⟨rfl, rfl, rfl⟩ := hcs
    exact ⟨none, [], 0, rfl, ⟨by simp, .inl rfl⟩⟩
  · simp [Value.cells] at hcs
    obtain ⟨rfl, rfl, rfl⟩ := hcs
    have hml : len0 ≤ m := by rw [hmm]; split <;> omega
    have hel : ∀ i, i < len0 → ∃ cs : List Value, Fits2 w.heap ks cs ∧ ∀ j u, cs[j]? = some u → w.cell? (a.add (i * ks.length + j)) = some u := by
      intro i hil
      obtain ⟨cs', hc, ht⟩ := hi i (by omega)
      have ft := mix2_open n e ks q _ _ hk ht
      refine ⟨_, ft, fun j u hj => ?_⟩
      obtain ⟨_, hcl, hat⟩ := World.cells?_some hc
      rw [hC] at hat hcl
      have hjl : j < ks.length := by
        have := (List.getElem?_eq_some_iff.1 hj).1
        have := ft.len
        omega
      have := hat j hjl
      rw [← Go.Deep.add_add, this]
      exact hj
    let F : List {cs : List Value // Fits2 w.heap ks cs} := (List.range len0).pmap (fun i hi => ⟨Classical.choose (hel i hi), (Classical.choose_spec (hel i hi)).1⟩) (fun i hi => List.mem_range.1 hi)
    have hFl : F.length = len0 := by simp [F]
    refine ⟨some a, F, cap0, by rw [hFl], ?_⟩
    rw [hFl]
    rcases Nat.eq_zero_or_pos len0 with hz | hz
    · have : F = [] := List.eq_nil_of_length_eq_zero (by omega)
      rw [this, hz]
      exact ⟨by simp, .inl rfl⟩
    · refine rows_gen (f := fun x => x.1) (fun x => x.2.len) F hFl hz h0 (fun i x hx j u hj => ?_)
      obtain ⟨h1, h2⟩ := List.getElem?_eq_some_iff.1 hx
      simp only [F, List.length_pmap, List.length_range] at h1
      simp only [F, List.getElem_pmap, List.getElem_range] at h2
      subst h2
      exact (Classical.choose_spec (hel i h1)).2 j u hj
end
theorem Fits2.int_inv {h : Hp} {k : IntKind} {ks : List (IntKind ⊕ List IntKind)} {cs : List Value} (q : Fits2 h (.inl k :: ks) cs) : ∃ n cs', cs = .int k n :: cs' ∧ (Lit.int k n).wf = true ∧ Fits2 h ks cs' := by
  cases q with
  | int k n w r => exact ⟨n, _, rfl, w, r⟩
theorem Fits2.sl_inv {h : Hp} {qs : List IntKind} {ks : List (IntKind ⊕ List IntKind)} {cs : List Value} (q : Fits2 h (.inr qs :: ks) cs) : ∃ A rows c cs', cs = .slice A (List.length rows) c :: cs' ∧ RSl h A rows.length qs.length (rows.flatMap (List.zipWith Value.int qs)) ∧ rows.length ≤ c ∧ (∀ ns ∈ rows, ns.length = qs.length ∧ ∀ p ∈ qs.zip ns, (Lit.int p.1 p.2).wf = true) ∧ Fits2 h ks cs' := by
  cases q with
  | sl A l c hr hc wf r => exact ⟨A, l, c, _, rfl, hr, hc, wf, r⟩
theorem Fits2.nil_inv {h : Hp} {cs : List Value} (q : Fits2 h [] cs) : cs = [] := by
  cases q; rfl
end Go.Proofs.YtfdpccbajaiepaaGreatDoor.Sx

/-
The row of the statement TopAsksSaid: for every input the Go function quintet/quintettop.TopAsks returns true, and each argument reads afterwards as it read before; out of the walk and the plain law of YtfdpccbajaiepaaGreatDoorPureTopAsks.
Conditions: none beyond the statement's own.
-/
namespace Go.Proofs.YtfdpccbajaiepaaGreatDoor.topAsks
open Go.ChangeShapes Go.WideShapes Go.ChangeAt Go.RowKit
open Go.ChangeMaps (open_string shut_string)
set_option linter.unusedVariables false
theorem own : ownKnob Tryz.prog.godebug = none := by kernel_rfl
theorem laidOut : laidOutB Tryz.prog = true := by kernel_rfl
/-- The cells of a datum of whole numbers. -/
def cellsD : DataW Unit → Array Value
  | .agg l => (l.map fun | .lit (.int k z) => Value.int k z | _ => .nilIface).toArray
  | _ => #[]
/-- A world that meets the row's list. -/
noncomputable def laidWorld (os : Os) : World :=
  let w0 := World.holding Tryz.prog os ⟨#[], #[], []⟩
  { w0 with heap := w0.heap
      |>.modify 2 (fun | .cells _ t frozen => .cells (cellsD Rows.laid_math_bits_deBruijn32tab) t frozen | o => o)
      |>.modify 3 (fun | .cells _ t frozen => .cells (cellsD Rows.laid_math_bits_deBruijn64tab) t frozen | o => o)
      |>.modify 1 (fun | .cells _ t frozen => .cells (cellsD Rows.laid_internal_strconv_uint64pow10) t frozen | o => o)
      |>.modify 0 (fun | .cells _ t frozen => .cells #[.iface 147 (.agg #[.pointer (some ⟨4, 24, none⟩)])] t frozen | o => o) }
theorem laidWorld_met (os : Os) (args : Array Value) : laidMetH Tryz.prog Rows.topAsksRow.laid ((laidWorld os).forCall (fun _ _ => 0) ⟨#[], args, []⟩).memory :=
  laidMetH_of_parts (laidMet_of_run' 8 (by kernel_rfl) (by kernel_rfl)) (by kernel_rfl)
set_option maxRecDepth 100000 in
theorem lifted (os : Os) (started : os.Started) (H : Type) (enc : TypeId × Value → H) :
    ReturnsInHanded {} Tryz.checked os 4 .any (fun w args => (Rows.topAsksSpec.pre enc Tryz.prog Tryz.f4 Rows.topAsksRow.domain false w args ∧ laidMetH Tryz.prog Rows.topAsksRow.laid w) ∧ sizedMet enc Tryz.prog Tryz.f4 (OpenSpec.ofChange Rows.topAsksSpec) false w args) (Rows.topAsksSpec.post enc Tryz.prog Tryz.f4 false true false false) := by
  refine returnsInHanded_of_change_and (C := Tryz.checked) (X := fun w _ => laidMetH Tryz.prog Rows.topAsksRow.laid w) (fun _ _ _ hh h => h.of_heap hh) own started (by kernel_rfl) Tryz.func4
    (ChangeSpec.witness_at (enc := enc) (C := Tryz.checked) (os := os) (X := fun w _ => laidMetH Tryz.prog Rows.topAsksRow.laid w) false (laidWorld os) #[.agg #[.int .u32 0, .int .u32 0, .int .u16 0, .int .u16 0, .int .u8 0]] 8 rfl (by kernel_rfl) (by kernel_rfl) (by kernel_rfl) (by kernel_rfl) (by kernel_rfl) (laidWorld_met os _)) ?_
  intro W base args ds gs before hval0 hW hcnd hsz0 hL _
  have hsz : (DataW.weightsEach Tryz.prog (Tryz.f4.params.toList ++ Rows.topAsksSpec.plain.varTypes Tryz.prog) (ds ++ gs)).all (· ≤ reachBytes) = true := hsz0
  have hval : ∀ (j : Nat) t v, Tryz.f4.params[j]? = some t → args[j]? = some v → Value.okWide Tryz.prog W .any base t v := hval0
  have hW' := hW
  obtain ⟨p, q, hA0, hV, rfl, hfz, hnd⟩ := hW
  have hA : DataW.TrodAll enc Tryz.prog W 0 (fun _ => true) true Tryz.f4.params.toList args.toList ds p := hA0
  rw [Tryz.params4] at hA hval hsz
  obtain ⟨v0, vs0, d0, ds0, p0, q0, hargs, rfl, rfl, h0, r0⟩ := trodAll_cons hA
  obtain ⟨rfl, rfl, rfl⟩ := trodAll_nil r0
  obtain rfl : args = #[v0] := by cases args; simp_all
  obtain ⟨rfl, rfl⟩ := trodVars_none hV
  have k0 := h0
  have lt0 : ∀ x ∈ p0, x.block < W.heap.size := by obtain ⟨m, hm⟩ := k0; exact DataW.trod_lt m _ _ _ hm
  obtain ⟨ns0, ln0, rfl, wn0⟩ := Sx.open_flat 9 [.u32, .u32, .u16, .u16, .u8] Tryz.underlying57 (by kernel_rfl) (hval 0 57 v0 rfl rfl) h0
  obtain ⟨a0_0, ns0_0, rfl, ln0_0⟩ := Sx.len_succ (n := 4) ln0
  obtain ⟨a0_1, ns0_1, rfl, ln0_1⟩ := Sx.len_succ (n := 3) ln0_0
  obtain ⟨a0_2, ns0_2, rfl, ln0_2⟩ := Sx.len_succ (n := 2) ln0_1
  obtain ⟨a0_3, ns0_3, rfl, ln0_3⟩ := Sx.len_succ (n := 1) ln0_2
  obtain ⟨a0_4, ns0_4, rfl, ln0_4⟩ := Sx.len_succ (n := 0) ln0_3
  obtain rfl := Sx.len_zero ln0_4
  have w0_0 := wn0 (.u32, a0_0) (by simp)
  have w0_1 := wn0 (.u32, a0_1) (by simp)
  have w0_2 := wn0 (.u16, a0_2) (by simp)
  have w0_3 := wn0 (.u16, a0_3) (by simp)
  have w0_4 := wn0 (.u8, a0_4) (by simp)
  clear hA0 hval0 hsz0 hsz
  refine (Go.Proofs.YtfdpccbajaiepaaGreatDoor.PureTopAsks.walk a0_0 a0_1 a0_2 a0_3 a0_4 w0_0 w0_1 w0_2 w0_3 w0_4 hL).mono fun e W' ⟨he, bel⟩ => ?_
  subst he
  exact ⟨_, rfl, _, _, _, [], _, [], hW', trodAll_mk1 (shut_bool Tryz.underlying4 _), (trodAll_cons_mk (Below.trod laidOut (by kernel_rfl) (of_decide_eq_true (by kernel_rfl)) k0 bel lt0) trodAll_mk0), rfl, bel.frame _, fun h => by cases h⟩
theorem over : Rows.topAsksRow.holds Tryz.pinned (OpenSpec.ofChange Rows.topAsksSpec) :=
  OpenClaim.holds_of_wide 4 Tryz.f4 rfl rfl rfl rfl rfl rfl rfl ⟨rfl, rfl, rfl, rfl, rfl⟩ rfl rfl rfl rfl rfl (by kernel_rfl) Tryz.func4 (by kernel_rfl)
    (of_decide_eq_true (by kernel_rfl)) (by unfold Func.isWrapper; first | (rw [if_pos (by decide +kernel)]; kernel_rfl) | (rw [if_neg (by decide +kernel)]; exact ⟨rfl, rfl⟩))
    (fun os started H enc _ => lifted os started H enc)
theorem proved : Rows.TopAsksSaid := over
end Go.Proofs.YtfdpccbajaiepaaGreatDoor.topAsks
namespace Go.Proofs.YtfdpccbajaiepaaGreatDoor
theorem topAsks_holds : Rows.TopAsksSaid := topAsks.proved
end Go.Proofs.YtfdpccbajaiepaaGreatDoor

/-
The tied card of TopAsks: the row's statement, and what it lists tied to the program's text.
Conditions: none beyond the statement's own.
-/
namespace Go.Proofs.YtfdpccbajaiepaaGreatDoor
open Go
set_option maxRecDepth 100000
theorem topAsksCard_holds : Rows.TopAsksCardSaid :=
  Claim7.holds_tied_plain_at .later [] [.data, .data, .data, .handle] true (true, "143c36606b7964ae0f9c95efd951f96b7357ec8e0c28080261581f388e6240d3") true
    topAsks_holds (fun _ h => by cases h) (by kernel_rfl) (fun _ h => by cases h) topAsks_row_tie rfl ⟨rfl, rfl⟩ (by kernel_rfl) rfl
    (fun f fn hf hfn => by
      obtain rfl : f = 4 := Option.some.inj ((show Tryz.prog.funcNamed "quintet/quintettop.TopAsks" = some 4 by kernel_rfl).symm.trans hf) |>.symm
      obtain rfl : fn = Tryz.f4 := (Option.some.inj (Tryz.func4.symm.trans hfn)).symm
      exact ⟨by kernel_rfl, fun j t ht => by
        rw [Tryz.params4] at ht
        have hm : t ∈ [57] := by simpa using Array.mem_of_getElem? ht
        have hall : ([57].all fun u => !Tryz.prog.wantsStandIn u) = true := by kernel_rfl
        exact (show Tryz.prog.wantsStandIn t = false by simpa using List.all_eq_true.1 hall t hm)⟩)
    (by kernel_rfl)
#print axioms topAsksCard_holds
end Go.Proofs.YtfdpccbajaiepaaGreatDoor
