/- Texts laid together: PrSpec1, PrSpec2, RdPure1, PrSpec3, PrSpec5, RdPure2, PrBld, PrRules, RdPure3, RdPure4, RdPure5, ErAs, ErIs, ErS, RdSpec16, PnTab, TpMatch. -/
import Derived.Test.YtfdpccbajaiepaaGreatDoorB07
import Derived.Test.YtfdpccbajaiepaaGreatDoorB03
import Derived.Lib.LaidTab
import Derived.Test.YtfdpccbajaiepaaGreatDoorB06
import Derived.Test.YtfdpccbajaiepaaGreatDoorB05
import Derived.Laws.Concat
import Derived.Lib.Builder
import Derived.Laws.Pointers
import Derived.Test.YtfdpccbajaiepaaGreatDoorProg
import Derived.WalkKit
import Derived.LaidEql
import Derived.Stop.Asserts
import Derived.RowKitTokens
import Derived.Lib.IfaceEq
import Derived.Test.YtfdpccbajaiepaaGreatDoorB02
/- Printing: strconv.AppendUint over a row of bytes; number. -/
namespace Go.Proofs.YtfdpccbajaiepaaGreatDoor.Pr
open Go Go.RowKit Go.Proofs.YtfdpccbajaiepaaGreatDoor.Sx Go.Proofs.YtfdpccbajaiepaaGreatDoor.Sxp Go.Proofs.YtfdpccbajaiepaaGreatDoor.Sxp.Fx Go.Proofs.YtfdpccbajaiepaaGreatDoor.Lx
set_option linter.unusedVariables false
set_option linter.unusedSimpArgs false
set_option maxRecDepth 10000
abbrev ByT (h : Hp) (A : Option Addr) (c : Nat) (l : List UInt8) : Prop := ByR h 5 A c l
abbrev OthT (h h' : Hp) : Prop := OthK 5 h h'
noncomputable def powCells : Array Value := (Lib.pow10Tab.map fun z => Value.int .u64 z).toArray
/-- The table of the powers of ten lies in the heap. -/
def Tab (h : Hp) : Prop := ∃ t f, h[1]? = some (.cells powCells t f)
theorem Tab.ext {h h' : Hp} (t : Tab h) (e : Ext h h') : Tab h' := by
  obtain ⟨T, f, hb⟩ := t
  exact ⟨T, f, by rw [e.old _ (lt_of_get hb)]; exact hb⟩
theorem glob : Tryz.prog.globalNamed "internal/strconv.uint64pow10" = some 1 := by kernel_rfl
theorem tab_of {w : World} (h : Lib.TabIs Tryz.prog w "internal/strconv.uint64pow10" .u64 Lib.pow10Tab) : Tab w.heap := by
  unfold Lib.TabIs World.var? at h
  rw [glob] at h
  simp only [Option.bind_some] at h
  split at h
  · rename_i cs T f hb
    injection h with h
    rw [h] at hb
    exact ⟨T, f, hb⟩
  · cases h
theorem of_tab {w : World} (h : Tab w.heap) : Lib.TabIs Tryz.prog w "internal/strconv.uint64pow10" .u64 Lib.pow10Tab := by
  obtain ⟨T, f, hb⟩ := h
  unfold Lib.TabIs World.var?
  rw [glob]
  simp only [Option.bind_some]
  rw [hb]
  rfl
/-- What a printing function leaves: a fresh row of these bytes. -/
def PrK (h0 h : Hp) (l : List UInt8) (K : Value → Hp → Prop) : Prop := ∀ h' A' c', Ext h0 h' → OthT h h' → ByT h' A' c' l → Fresh h0 A' → K (.slice A' l.length c') h'
theorem uint_s {h0 h : Hp} {A : Option Addr} {c : Nat} {l : List UInt8} (t : Tab h0) (n : Nat) (hn : n < 18446744073709551616) (e : Ext h0 h) (r : ByT h A c l) (hF : Fresh h0 A) (hl : l.length ≤ 1000000000) {K : Value → Hp → Prop} (H : PrK h0 h (l ++ Lib.decDigits n) K) :
    CallsH Tryz.prog 89 #[.slice A l.length c, .int .u64 (n : Int), .int .i64 10] h K := fun w hw => by
  subst hw
  have own : w.ownsRow h0.size 5 1 (.slice A l.length c) l.length (Lib.byteCells l) := by
    have r1 := r.row
    unfold Row at r1
    rw [flatB] at r1
    refine ⟨by rw [Lib.byteCells_length, Nat.mul_one], ?_⟩
    rcases r1 with ⟨rfl, h1, rfl, h2⟩ | ⟨g, rest, rfl, hb, h1, h2, h3⟩
    · left
      exact ⟨by rw [h1], h1⟩
    · right
      refine ⟨g, c, (Lib.byteCells l ++ rest).toArray, rfl, hF g ⟨_, rfl, rfl⟩, hb, h3, ?_, by simpa using h2, ?_⟩
      · have := r.cap
        unfold maxLen
        omega
      · simp only [Nat.mul_one]
        rw [← Lib.byteCells_length l]
        simp
  refine (Tryz.internal_strconv_AppendUint_10 h0.size l.length n hn (.slice A l.length c) (Lib.byteCells l) w own e.size (by omega) (of_tab (t.ext e))).mono fun en w' hh => ?_
  obtain ⟨v', rfl, ow, bl, ok⟩ := hh
  refine ⟨v', rfl, ⟨bl.os, bl.tape, bl.output, trivial⟩, ?_⟩
  have e' : Ext h0 w'.heap := ⟨Nat.le_trans e.size bl.size, fun k hk => by rw [bl.block k hk, e.old k hk]⟩
  have ot : OthT w.heap w'.heap := fun k o ho hn => ok k o ho (by simp) hn
  obtain ⟨hxl, hv⟩ := ow
  have hlen : (l ++ Lib.decDigits n).length = l.length + (Lib.decDigits n).length := List.length_append
  rcases hv with ⟨rfl, h0n⟩ | ⟨g, cap, cur, rfl, hg, hb, h3, h4, h5, h6⟩
  · have h1 : l ++ Lib.decDigits n = [] := List.eq_nil_of_length_eq_zero (by omega)
    have := H w'.heap none 0 e' ot (by rw [h1]; exact ByR.nil) (Fresh.none _)
    rw [h1] at this
    exact this
  · have := H w'.heap (some ⟨g, 0, none⟩) cap e' ot ?_ (Fresh.some hg)
    · rw [hlen] at this
      exact this
    · refine ⟨?_, by unfold maxLen at h4; omega⟩
      unfold Row
      rw [flatB, hlen, Lib.byteCells_append]
      refine .inr ⟨g, cur.toList.drop (Lib.byteCells l ++ Lib.byteCells (Lib.decDigits n)).length, rfl, ?_, hxl, ?_, h3⟩
      · have hc : Lib.byteCells l ++ Lib.byteCells (Lib.decDigits n) ++ cur.toList.drop (Lib.byteCells l ++ Lib.byteCells (Lib.decDigits n)).length = cur.toList := by
          rw [hxl, ← h6]
          exact List.take_append_drop _ _
        rw [hc]
        exact hb
      · have hc : Lib.byteCells l ++ Lib.byteCells (Lib.decDigits n) ++ cur.toList.drop (Lib.byteCells l ++ Lib.byteCells (Lib.decDigits n)).length = cur.toList := by
          rw [hxl, ← h6]
          exact List.take_append_drop _ _
        rw [hc]
        simpa using h5
theorem undBy : Tryz.prog.underlying 58 = some (.slice 5) := by kernel_rfl
theorem undStr : Tryz.prog.underlying 9 = some .string := by kernel_rfl
theorem byInfo : ∃ i z, Tryz.prog.info? 5 = some i ∧ i.zero = some z ∧ z.cells.size = i.size ∧ i.size = 1 ∧ i.bytes = 1 := ⟨_, _, rfl, rfl, rfl, rfl, rfl⟩
theorem app_s {h0 h : Hp} {A : Option Addr} {c : Nat} {l : List UInt8} (s : List UInt8) (e : Ext h0 h) (r : ByT h A c l) (hF : Fresh h0 A) (hl : l.length + s.length ≤ 1000000000) {K : Value → Hp → Prop} (H : PrK h0 h (l ++ s) K) :
    HW Tryz.prog (Builtin.append_ #[58, 9] 58 #[.slice A l.length c, .string (bs s)]) h K := by
  obtain ⟨i, z, hi, hz, hzl, hi1, hb⟩ := byInfo
  exact appStr undBy undStr hi hz hzl hi1 hb e r hF hl H
theorem number_s {h0 h : Hp} {A : Option Addr} {c : Nat} {l : List UInt8} (t : Tab h0) (sign : List UInt8) (n : Nat) (hn : n < 18446744073709551616) (e : Ext h0 h) (r : ByT h A c l) (hF : Fresh h0 A) (hl : l.length + sign.length ≤ 1000000000) {K : Value → Hp → Prop}
    (H : PrK h0 h (l ++ sign ++ Lib.decDigits n) K) :
    CallsH Tryz.prog 45 #[.slice A l.length c, .string (bs sign), .int .u64 (n : Int)] h K := by
  refine syntax_number_ok _ _ _ _ _ ?_
  unfold syntax_number
  refine app_s sign e r hF hl fun h1 A1 c1 e1 o1 r1 F1 => ⟨_, _, _, rfl, ?_⟩
  refine strconv_AppendUint_ok _ _ _ _ _ ?_
  unfold strconv_AppendUint
  refine uint_s t n hn e1 r1 F1 (by rw [List.length_append]; exact hl) fun h2 A2 c2 e2 o2 r2 F2 => ⟨_, _, _, rfl, _, _, _, rfl, ?_⟩
  exact H h2 A2 c2 e2 (o1.trans o2) r2 F2
end Go.Proofs.YtfdpccbajaiepaaGreatDoor.Pr

/- Printing: an address. -/
namespace Go.Proofs.YtfdpccbajaiepaaGreatDoor.Pr
open Go Go.RowKit Go.Proofs.YtfdpccbajaiepaaGreatDoor.Sx Go.Proofs.YtfdpccbajaiepaaGreatDoor.Sxp Go.Proofs.YtfdpccbajaiepaaGreatDoor.Sxp.Fx Go.Proofs.YtfdpccbajaiepaaGreatDoor.Lx
set_option linter.unusedVariables false
set_option linter.unusedSimpArgs false
set_option maxRecDepth 10000
theorem shr32n {P : Program} {t : TypeId} (a k : Nat) (y : Int) (hy : y = (k : Int)) (hk : k < 32) : PV P (binOp .shr t (.int .u32 (a : Int)) (.int .i64 y)) (.int .u32 ((a / 2 ^ k : Nat) : Int)) := by
  subst hy
  intro w
  have hn : ¬ ((k : Int) < 0) := by omega
  simp only [binOp, Op.shift, hn, if_false]
  have e : (a : Int).fdiv (2 ^ min (k : Int).toNat 32) = ((a / 2 ^ k : Nat) : Int) := by
    rw [Int.toNat_natCast, Nat.min_eq_left (by omega)]
    rw [Int.ofNat_fdiv]
    simp
  show Result.ok (Value.int .u32 ((a : Int).fdiv (2 ^ min (k : Int).toNat 32))) w = _
  rw [e]
theorem and255 (n : Nat) (hn : n < 4294967296) : bAnd .u32 (n : Int) 255 = ((n % 256 : Nat) : Int) := by
  unfold bAnd
  have e1 : BitVec.ofInt IntKind.u32.bits (n : Int) = BitVec.ofNat 32 n := by rw [BitVec.ofInt_natCast]; rfl
  have e2 : BitVec.ofInt IntKind.u32.bits 255 = BitVec.ofNat 32 255 := by show BitVec.ofInt 32 255 = BitVec.ofNat 32 255; decide
  have e3 : (BitVec.ofInt IntKind.u32.bits (n : Int) &&& BitVec.ofInt IntKind.u32.bits 255).toNat = n % 256 := by
    rw [e1, e2]
    show (BitVec.ofNat 32 n &&& BitVec.ofNat 32 255).toNat = _
    rw [BitVec.toNat_and, BitVec.toNat_ofNat, BitVec.toNat_ofNat, Nat.mod_eq_of_lt (by omega), Nat.mod_eq_of_lt (by omega)]
    exact Nat.and_two_pow_sub_one_eq_mod n 8
  rw [e3]
  simp [IntKind.wrap, IntKind.bits, IntKind.signed]
  omega
theorem oct (a k : Nat) (ha : a < 4294967296) : IntKind.u64.wrap (bAnd .u32 ((a / 2 ^ k : Nat) : Int) 255) = ((a / 2 ^ k % 256 : Nat) : Int) := by
  rw [and255 _ (Nat.lt_of_le_of_lt (Nat.div_le_self _ _) ha)]
  simp only [IntKind.wrap, IntKind.bits, IntKind.signed]
  simp
  omega
def addrT (a : Nat) : List UInt8 := [32] ++ Lib.decDigits (a / 2 ^ 24 % 256) ++ [46] ++ Lib.decDigits (a / 2 ^ 16 % 256) ++ [46] ++ Lib.decDigits (a / 2 ^ 8 % 256) ++ [46] ++ Lib.decDigits (a / 2 ^ 0 % 256)
theorem decl_len (n : Nat) (h : n < 4294967296) : (Lib.decDigits n).length ≤ 10 := dec_len10 h
theorem address_s {h0 h : Hp} {A : Option Addr} {c : Nat} {l : List UInt8} (t : Tab h0) (a : Nat) (ha : a < 4294967296) (e : Ext h0 h) (r : ByT h A c l) (hF : Fresh h0 A) (hl : l.length ≤ 1000000) {K : Value → Hp → Prop}
    (H : PrK h0 h (l ++ addrT a) K) : CallsH Tryz.prog 44 #[.slice A l.length c, .int .u32 (a : Int)] h K := by
  refine syntax_address_ok _ _ _ _ ?_
  unfold syntax_address
  refine ⟨5, ?_⟩
  have lt : ∀ k : Nat, a / 2 ^ k % 256 < 256 := fun k => Nat.mod_lt _ (by decide)
  have d : ∀ k : Nat, (Lib.decDigits (a / 2 ^ k % 256)).length ≤ 10 := fun k => decl_len _ (by have := lt k; omega)
  unfold syntax_address_l1
  refine br_t (by decide) ⟨bs [32], fun w => pureRun_run _ _ _ (by kernel_rfl) w, _, shr32n a 24 _ (by decide) (by decide), ?_⟩
  rw [oct a 24 ha]
  refine number_s t [32] _ (by have := lt 24; omega) e r hF (by simp; omega) fun h1 A1 c1 e1 o1 r1 F1 => ⟨_, _, _, rfl, ?_⟩
  unfold syntax_address_l1
  refine br_t (by decide) ⟨bs [46], fun w => pureRun_run _ _ _ (by kernel_rfl) w, _, shr32n a 16 _ (by decide) (by decide), ?_⟩
  rw [oct a 16 ha]
  refine number_s t [46] _ (by have := lt 16; omega) e1 r1 F1 (by have := d 24; simp at this ⊢; omega) fun h2 A2 c2 e2 o2 r2 F2 => ⟨_, _, _, rfl, ?_⟩
  unfold syntax_address_l1
  refine br_t (by decide) ⟨bs [46], fun w => pureRun_run _ _ _ (by kernel_rfl) w, _, shr32n a 8 _ (by decide) (by decide), ?_⟩
  rw [oct a 8 ha]
  refine number_s t [46] _ (by have := lt 8; omega) e2 r2 F2 (by have := d 24; have := d 16; simp at *; omega) fun h3 A3 c3 e3 o3 r3 F3 => ⟨_, _, _, rfl, ?_⟩
  unfold syntax_address_l1
  refine br_t (by decide) ⟨bs [46], fun w => pureRun_run _ _ _ (by kernel_rfl) w, _, shr32n a 0 _ (by decide) (by decide), ?_⟩
  rw [oct a 0 ha]
  refine number_s t [46] _ (by have := lt 0; omega) e3 r3 F3 (by have := d 24; have := d 16; have := d 8; simp at *; omega) fun h4 A4 c4 e4 o4 r4 F4 => ⟨_, _, _, rfl, ?_⟩
  unfold syntax_address_l1
  refine br_f (by decide) ?_
  have eq : l ++ [32] ++ Lib.decDigits (a / 2 ^ 24 % 256) ++ [46] ++ Lib.decDigits (a / 2 ^ 16 % 256) ++ [46] ++ Lib.decDigits (a / 2 ^ 8 % 256) ++ [46] ++ Lib.decDigits (a / 2 ^ 0 % 256) = l ++ addrT a := by
    unfold addrT
    simp only [List.append_assoc]
  rw [eq] at r4 ⊢
  exact H h4 A4 c4 e4 (((o1.trans o2).trans o3).trans o4) r4 F4
end Go.Proofs.YtfdpccbajaiepaaGreatDoor.Pr

/- Pieces of a text: what is printed is lexed and read as itself. -/
namespace Go.Proofs.YtfdpccbajaiepaaGreatDoor.Lx
open Go Go.RowKit Go.Proofs.YtfdpccbajaiepaaGreatDoor.Sx Go.Proofs.YtfdpccbajaiepaaGreatDoor.Pr
set_option linter.unusedVariables false
set_option linter.unusedSimpArgs false
theorem sgn_is {t : TokM} {c : UInt8} (h : isSgn t c) (d : UInt8) : isSign t [d] = decide (c = d) := by
  unfold isSign
  rw [h.k, h.x]
  simp
theorem sgn_kind {t : TokM} (h : t.kind ≠ 3) (s : List UInt8) : isSign t s = false := by
  unfold isSign
  simp [h]
theorem num_ok {t : TokM} {u : Nat} (h : isNum t u) {mx : Int} (hu : (u : Int) ≤ mx) (rest : List TokM) : numR mx (t :: rest) = .ok ((u : Int), rest) := by
  rw [numR_cons]
  unfold numM
  rw [if_pos h.k, h.v, if_neg (by omega)]
/-- A token that joins nothing. -/
def plainT (t : TokM) : Prop := isSign t [47] = false ∧ isSign t [58] = false
def Sep (rest : List TokM) : Prop := ∃ t l, rest = t :: l ∧ plainT t
/-- These tokens are read as v. -/
structure Piece {α : Type} (R : List TokM → ReR α) (v : α) (pre : List TokM) : Prop where
  hd : ∃ t l, pre = t :: l ∧ plainT t
  rd : ∀ rest, Sep rest → R (pre ++ rest) = .ok (v, rest)
theorem Piece.sep {α : Type} {R : List TokM → ReR α} {v : α} {pre : List TokM} (p : Piece R v pre) (rest : List TokM) : Sep (pre ++ rest) := by
  obtain ⟨t, l, rfl, h⟩ := p.hd
  exact ⟨t, l ++ rest, rfl, h⟩
def sepB (r : List UInt8) : Prop := ∀ x, r.head? = some x → x = 32 ∨ x = 10
theorem sepB.kind {r : List UInt8} (h : sepB r) (k : Nat) (hk : k ≠ 0) : ∀ x, r.head? = some x → kindB x ≠ k := by
  intro x hx
  rcases h x hx with rfl | rfl
  · show (0 : Nat) ≠ k; omega
  · show (0 : Nat) ≠ k; omega
/-- This text is read as v. -/
def Prints {α : Type} (T : List UInt8) (R : List TokM → ReR α) (v : α) : Prop :=
  ∀ (r : List UInt8) (line col : Nat) (P : List TokM → Prop), sepB r → (∀ col', Lexes r line col' fun ts => ∀ pre, Piece R v pre → P (pre ++ ts)) → Lexes (T ++ r) line col P
theorem prints_blank {α : Type} {T : List UInt8} {R : List TokM → ReR α} {v : α} (h : Prints T R v) : Prints (32 :: T) R v := fun r line col P hs H => lex_blank rfl (h r line (col + 1) P hs H)
theorem num_plain {t : TokM} {u : Nat} (h : isNum t u) : plainT t := ⟨sgn_kind (by rw [h.k]; omega) _, sgn_kind (by rw [h.k]; omega) _⟩
theorem prints_num {u : Nat} (hu : u < 4294967296) {mx : Int} (hm : (u : Int) ≤ mx) : Prints (dec u) (numR mx) (u : Int) := fun r line col P hs H =>
  lex_num hu (hs.kind 2 (by omega)) fun col' => (H col').mono fun ts h t ht => h [t] ⟨⟨t, [], rfl, num_plain ht⟩, fun rest _ => num_ok ht hm rest⟩
/-! ### addresses -/
theorem or256 {n x : Nat} (hn : n < 16777216) (hx : x < 256) : bOr .u32 (IntKind.u32.wrap ((n : Int) * 256)) (x : Int) = ((n * 256 + x : Nat) : Int) := by
  have e0 : IntKind.u32.wrap ((n : Int) * 256) = ((n * 256 : Nat) : Int) := by
    simp only [IntKind.wrap, IntKind.bits, IntKind.signed]
    simp
    omega
  rw [e0]
  unfold bOr
  have e1 : BitVec.ofInt IntKind.u32.bits ((n * 256 : Nat) : Int) = BitVec.ofNat 32 (n * 256) := by rw [BitVec.ofInt_natCast]; rfl
  have e2 : BitVec.ofInt IntKind.u32.bits (x : Int) = BitVec.ofNat 32 x := by rw [BitVec.ofInt_natCast]; rfl
  have e3 : (BitVec.ofInt IntKind.u32.bits ((n * 256 : Nat) : Int) ||| BitVec.ofInt IntKind.u32.bits (x : Int)).toNat = n * 256 + x := by
    rw [e1, e2]
    show (BitVec.ofNat 32 (n * 256) ||| BitVec.ofNat 32 x).toNat = _
    rw [BitVec.toNat_or, BitVec.toNat_ofNat, BitVec.toNat_ofNat, Nat.mod_eq_of_lt (by omega), Nat.mod_eq_of_lt (by omega)]
    have := Nat.shiftLeft_add_eq_or_of_lt (i := 8) (b := x) (by omega) n
    rw [Nat.shiftLeft_eq] at this
    exact this.symm
  rw [e3]
  simp only [IntKind.wrap, IntKind.bits, IntKind.signed]
  simp
  omega
theorem addr_ok {a : Nat} (ha : a < 4294967296) {n3 n2 n1 n0 s3 s2 s1 : TokM} (h3 : isNum n3 (a / 2 ^ 24 % 256)) (h2 : isNum n2 (a / 2 ^ 16 % 256)) (h1 : isNum n1 (a / 2 ^ 8 % 256)) (h0 : isNum n0 (a / 2 ^ 0 % 256))
    (k3 : isSgn s3 46) (k2 : isSgn s2 46) (k1 : isSgn s1 46) (rest : List TokM) : addrR (n3 :: s3 :: n2 :: s2 :: n1 :: s1 :: n0 :: rest) = .ok ((a : Int), rest) := by
  have lt : ∀ k : Nat, a / 2 ^ k % 256 < 256 := fun k => Nat.mod_lt _ (by decide)
  unfold addrR
  rw [num_ok h3 (by have := lt 24; omega)]
  simp only
  unfold addrL
  rw [sgn_is k3, if_pos (by decide), num_ok h2 (by have := lt 16; omega)]
  simp only
  rw [or256 (by have := lt 24; omega) (lt 16)]
  unfold addrL
  rw [sgn_is k2, if_pos (by decide), num_ok h1 (by have := lt 8; omega)]
  simp only
  rw [or256 (by have := lt 24; have := lt 16; omega) (lt 8)]
  unfold addrL
  rw [sgn_is k1, if_pos (by decide), num_ok h0 (by have := lt 0; omega)]
  simp only
  rw [or256 (by have := lt 24; have := lt 16; have := lt 8; omega) (lt 0)]
  unfold addrL
  have e : ((a / 2 ^ 24 % 256 * 256 + a / 2 ^ 16 % 256) * 256 + a / 2 ^ 8 % 256) * 256 + a / 2 ^ 0 % 256 = a := by
    simp only [Nat.reducePow]
    omega
  rw [e]
def addrT0 (a : Nat) : List UInt8 := dec (a / 2 ^ 24 % 256) ++ (46 :: (dec (a / 2 ^ 16 % 256) ++ (46 :: (dec (a / 2 ^ 8 % 256) ++ (46 :: dec (a / 2 ^ 0 % 256))))))
theorem addrT_eq (a : Nat) : addrT a = 32 :: addrT0 a := by
  unfold addrT addrT0
  simp [dec]
/-- An address, whatever comes behind but a digit. -/
theorem lex_addr {a : Nat} (ha : a < 4294967296) {r : List UInt8} {line col : Nat} {P : List TokM → Prop} (hr : ∀ x, r.head? = some x → kindB x ≠ 2)
    (H : ∀ col', Lexes r line col' fun ts => ∀ t l, t.kind = 2 → (∀ rest, addrR (t :: l ++ rest) = .ok ((a : Int), rest)) → P (t :: l ++ ts)) : Lexes (addrT0 a ++ r) line col P := by
  have lt : ∀ k : Nat, a / 2 ^ k % 256 < 4294967296 := fun k => by have : a / 2 ^ k % 256 < 256 := Nat.mod_lt _ (by decide); omega
  have h46 : ∀ x l, (46 :: l : List UInt8).head? = some x → kindB x ≠ 2 := by
    intro x l hx
    simp only [List.head?_cons, Option.some.injEq] at hx
    subst hx
    decide
  unfold addrT0
  simp only [List.append_assoc, List.cons_append]
  refine lex_num (lt 24) (fun x hx => h46 x _ hx) fun _ => lex_sign rfl fun _ => lex_num (lt 16) (fun x hx => h46 x _ hx) fun _ => lex_sign rfl fun _ => lex_num (lt 8) (fun x hx => h46 x _ hx) fun _ => lex_sign rfl fun _ => lex_num (lt 0) hr fun c' => (H c').mono ?_
  intro ts h n0 h0 s1 k1 n1 h1 s2 k2 n2 h2 s3 k3 n3 h3
  exact h n3 [s3, n2, s2, n1, s1, n0] h3.k (fun rest => addr_ok ha h3 h2 h1 h0 k3 k2 k1 rest)
theorem kind2_plain {t : TokM} (h : t.kind = 2) : plainT t := ⟨sgn_kind (by omega) _, sgn_kind (by omega) _⟩
theorem prints_addr {a : Nat} (ha : a < 4294967296) : Prints (addrT0 a) addrR (a : Int) := fun r line col P hs H =>
  lex_addr ha (hs.kind 2 (by omega)) fun col' => (H col').mono fun ts h t l hk hrd => h (t :: l) ⟨⟨t, l, rfl, kind2_plain hk⟩, fun rest _ => hrd rest⟩
end Go.Proofs.YtfdpccbajaiepaaGreatDoor.Lx

/- Printing: a header. -/
namespace Go.Proofs.YtfdpccbajaiepaaGreatDoor.Pr
open Go Go.RowKit Go.Proofs.YtfdpccbajaiepaaGreatDoor.Sx Go.Proofs.YtfdpccbajaiepaaGreatDoor.Sxp Go.Proofs.YtfdpccbajaiepaaGreatDoor.Sxp.Fx Go.Proofs.YtfdpccbajaiepaaGreatDoor.Lx
set_option linter.unusedVariables false
set_option linter.unusedSimpArgs false
set_option maxRecDepth 10000
theorem u64w (n : Nat) (h : n < 18446744073709551616) : IntKind.u64.wrap (n : Int) = (n : Int) := by
  simp only [IntKind.wrap, IntKind.bits, IntKind.signed]
  simp
  omega
theorem undU8 : Tryz.prog.underlying 5 = some (.int .u8) := by kernel_rfl
def hdrT (s d sp dp pr : Nat) : List UInt8 := addrT0 s ++ (32 :: (addrT0 d ++ (32 :: (dec sp ++ (32 :: (dec dp ++ (32 :: dec pr)))))))
theorem addrT_len (a : Nat) (ha : a < 4294967296) : (addrT a).length ≤ 44 := by
  have lt : ∀ k : Nat, a / 2 ^ k % 256 < 256 := fun k => Nat.mod_lt _ (by decide)
  have d : ∀ k : Nat, (Lib.decDigits (a / 2 ^ k % 256)).length ≤ 10 := fun k => decl_len _ (by have := lt k; omega)
  have d1 := d 24; have d2 := d 16; have d3 := d 8; have d4 := d 0
  unfold addrT
  simp only [List.length_append, List.length_cons, List.length_nil]
  omega
theorem ByR.clT {h : Hp} {A : Option Addr} {c : Nat} {l : List UInt8} (r : ByT h A c l) (h0 : 0 < l.length) : ∃ a, A = some a ∧ Cl h a (Lib.byteCells l) ∧ l.length ≤ c := by
  obtain ⟨a, ha, cl⟩ := RSl.some r.read h0
  rw [flatB] at cl
  refine ⟨a, ha, cl, ?_⟩
  rcases r.row with ⟨rfl, h1, _⟩ | ⟨g, rest, rfl, hb, h1, h2, h3⟩
  · omega
  · exact h3
theorem PrintHeader_s {h : Hp} (t : Tab h) (s d sp dp pr : Nat) (hs : s < 4294967296) (hd : d < 4294967296) (hsp : sp < 65536) (hdp : dp < 65536) (hpr : pr < 256) {K : Value → Hp → Prop}
    (H : ∀ h', Ext h h' → K (.string (bs (hdrT s d sp dp pr))) h') : CallsH Tryz.prog 18 #[.agg #[.int .u32 (s : Int), .int .u32 (d : Int), .int .u16 (sp : Int), .int .u16 (dp : Int), .int .u8 (pr : Int)]] h K := by
  refine syntax_PrintHeader_ok _ _ _ _ _ ?_
  unfold syntax_PrintHeader
  refine newC_i (cs := [.int .u32 (s : Int), .int .u32 (d : Int), .int .u16 (sp : Int), .int .u16 (dp : Int), .int .u8 (pr : Int)]) fun h1 e1 c1 b1 z1 => ?_
  have t1 := t.ext e1
  refine ⟨_, ld (c1.at_ 0 _ rfl) (by kernel_rfl), ?_⟩
  have ls := addrT_len s hs
  have ldd := addrT_len d hd
  have l1 := decl_len sp (by omega)
  have l2 := decl_len dp (by omega)
  refine address_s (l := []) t1 s hs (Ext.refl h1) ByR.nil (Fresh.none _) (by simp) fun h2 A2 c2 e2 o2 r2 F2 => ⟨_, _, _, rfl, ?_⟩
  rw [List.nil_append] at r2 ⊢
  refine ⟨_, ld ((c1.ext e2).at_ 1 _ rfl) (by kernel_rfl), ld (c1.at_ 1 _ rfl) (by kernel_rfl), ?_⟩
  refine address_s t1 d hd e2 r2 F2 (by omega) fun h3 A3 c3 e3 o3 r3 F3 => ⟨_, _, _, rfl, ?_⟩
  refine ⟨_, ld ((c1.ext e3).at_ 2 _ rfl) (by kernel_rfl), ?_⟩
  rw [u64w sp (by omega)]
  refine number_s t1 [32] sp (by omega) e3 r3 F3 (by simp; omega) fun h4 A4 c4 e4 o4 r4 F4 => ⟨_, _, _, rfl, ?_⟩
  refine ⟨_, ld ((c1.ext e4).at_ 3 _ rfl) (by kernel_rfl), ?_⟩
  rw [u64w dp (by omega)]
  refine number_s t1 [32] dp (by omega) e4 r4 F4 (by simp at *; omega) fun h5 A5 c5 e5 o5 r5 F5 => ⟨_, _, _, rfl, ?_⟩
  refine ⟨_, ld ((c1.ext e5).at_ 4 _ rfl) (by kernel_rfl), ?_⟩
  rw [u64w pr (by omega)]
  refine number_s t1 [32] pr (by omega) e5 r5 F5 (by simp at *; omega) fun h6 A6 c6 e6 o6 r6 F6 => ⟨_, _, _, rfl, ?_⟩
  have eq : addrT s ++ addrT d ++ [32] ++ Lib.decDigits sp ++ [32] ++ Lib.decDigits dp ++ [32] ++ Lib.decDigits pr = 32 :: hdrT s d sp dp pr := by
    rw [addrT_eq, addrT_eq]
    unfold hdrT
    simp only [List.append_assoc, List.cons_append, List.nil_append]
  rw [eq] at r6 ⊢
  have hne : 0 < (hdrT s d sp dp pr).length := by unfold hdrT; simp only [List.length_append, List.length_cons]; omega
  obtain ⟨a, rfl, cl, hlc⟩ := ByR.clT r6 (by simp)
  obtain ⟨i, z, hi, hz, hzl, hi1, hb⟩ := byInfo
  refine ⟨_, _, _, slLo (i := i) undBy hi (by omega) (by simp only [List.length_cons]; omega), ?_⟩
  have hc1 : ¬ c6 = (1 : Int).toNat := by
    simp only [List.length_cons] at hlc
    show ¬ c6 = 1
    omega
  have e3' : (if c6 = (1 : Int).toNat then some a else (some a).map (·.add ((1 : Int).toNat * i.size))) = some (a.add 1) := by
    rw [if_neg hc1, hi1]
    rfl
  rw [e3']
  have cl2 : Cl h6 (a.add 1) (Lib.byteCells (hdrT s d sp dp pr)) := cl.sub 1 fun j v hj => by
    show (Lib.byteCells (32 :: hdrT s d sp dp pr))[1 + j]? = some v
    rw [Nat.add_comm]
    exact hj
  refine ⟨_, convCl undBy undStr undU8 cl2 (by simp), ?_⟩
  exact H h6 (e1.trans e6)
end Go.Proofs.YtfdpccbajaiepaaGreatDoor.Pr

/- Printing: prefix, span, mask, a rule. -/
namespace Go.Proofs.YtfdpccbajaiepaaGreatDoor.Pr
open Go Go.RowKit Go.Proofs.YtfdpccbajaiepaaGreatDoor.Sx Go.Proofs.YtfdpccbajaiepaaGreatDoor.Sxp Go.Proofs.YtfdpccbajaiepaaGreatDoor.Sxp.Fx Go.Proofs.YtfdpccbajaiepaaGreatDoor.Lx Go.Proofs.YtfdpccbajaiepaaGreatDoor.Fs
set_option linter.unusedVariables false
set_option linter.unusedSimpArgs false
set_option maxRecDepth 10000
theorem addS {T : TypeId} (x y : List UInt8) (hx : x.length ≤ 100000) (hy : y.length ≤ 100000) : PV Tryz.prog (binOp .add T (.string (bs x)) (.string (bs y))) (.string (bs (x ++ y))) := by
  intro w
  have := run_string_add_lists (P := Tryz.prog) (w := w) x y (by omega) (by omega)
  exact this
def prefT (a l : Nat) : List UInt8 := if l = 0 then [32, 42] else addrT a ++ (if l < 32 then [47] ++ dec l else [])
def spanT (lo hi : Nat) : List UInt8 := if lo = 0 ∧ hi = 65535 then [32, 42] else [32] ++ dec lo ++ (if hi ≠ lo then [58] ++ dec hi else [])
def maskT (v c : Nat) : List UInt8 := if c = 0 then [32, 42] else [32] ++ dec v ++ (if c < 255 then [47] ++ dec c else [])
theorem addrT_len16 (a : Nat) : (addrT a).length ≤ 16 := by
  have lt : ∀ k : Nat, a / 2 ^ k % 256 < 256 := fun k => Nat.mod_lt _ (by decide)
  have d : ∀ k : Nat, (Lib.decDigits (a / 2 ^ k % 256)).length ≤ 3 := fun k => dec_len 2 _ (Nat.lt_trans (lt k) (by decide))
  have d1 := d 24; have d2 := d 16; have d3 := d 8; have d4 := d 0
  unfold addrT
  simp only [List.length_append, List.length_cons, List.length_nil]
  omega
theorem prefT_len {a l : Nat} (ha : a < 4294967296) (hl : l ≤ 32) : (prefT a l).length ≤ 30 := by
  have h1 := addrT_len16 a
  have h2 := decl_len l (by omega)
  unfold prefT
  split
  · simp
  · split
    · simp [dec]; omega
    · simp; omega
theorem spanT_len {lo hi : Nat} (h0 : lo < 65536) (h1 : hi < 65536) : (spanT lo hi).length ≤ 22 := by
  have h1 := decl_len lo (by omega)
  have h2 := decl_len hi (by omega)
  unfold spanT
  split
  · simp
  · split
    · simp [dec]; omega
    · simp [dec]; omega
theorem maskT_len {v c : Nat} (h0 : v < 256) (h1 : c < 256) : (maskT v c).length ≤ 22 := by
  have h1 := decl_len v (by omega)
  have h2 := decl_len c (by omega)
  unfold maskT
  split
  · simp
  · split
    · simp [dec]; omega
    · simp [dec]; omega
theorem PrK.step {h0 h h1 : Hp} {l : List UInt8} {K : Value → Hp → Prop} (H : PrK h0 h l K) (o : OthT h h1) : PrK h0 h1 l K := fun h' A c e o' r F => H h' A c e (o.trans o') r F
theorem pprefix_s {h0 h : Hp} {A : Option Addr} {c : Nat} {l : List UInt8} (t : Tab h0) (a pl : Nat) (ha : a < 4294967296) (hpl : pl ≤ 32) (e : Ext h0 h) (r : ByT h A c l) (hF : Fresh h0 A) (hl : l.length ≤ 100000) {K : Value → Hp → Prop}
    (H : PrK h0 h (l ++ prefT a pl) K) : CallsH Tryz.prog 66 #[.slice A l.length c, .agg #[.int .u32 (a : Int), .int .i64 (pl : Int)]] h K := by
  refine syntax_prefix_ok _ _ _ _ _ ?_
  unfold syntax_prefix
  refine newC_i (cs := [.int .u32 (a : Int), .int .i64 (pl : Int)]) fun h1 e1 c1 b1 z1 => ?_
  refine ⟨_, ld (c1.at_ 1 _ rfl) (by kernel_rfl), ?_⟩
  have H1 := H.step e1.oth
  unfold prefT at H1
  by_cases h0l : pl = 0
  · rw [if_pos h0l] at H1
    refine br_t (by simp [h0l]) ?_
    exact app_s [32, 42] (e.trans e1) (r.ext e1) hF (by simp; omega) fun h2 A2 c2 e2 o2 r2 F2 => ⟨_, _, _, rfl, H1 h2 A2 c2 e2 o2 r2 F2⟩
  · rw [if_neg h0l] at H1
    refine br_f (by simpa using h0l) ⟨_, ld (c1.at_ 0 _ rfl) (by kernel_rfl), ?_⟩
    have la := addrT_len a ha
    refine address_s t a ha (e.trans e1) (r.ext e1) hF (by omega) fun h2 A2 c2 e2 o2 r2 F2 => ⟨_, _, _, rfl, ?_⟩
    have c2' : Cl h2 ⟨h.size, 0, none⟩ [.int .u32 (a : Int), .int .i64 (pl : Int)] := o2.cl b1 (by decide) fun j v hj => by rw [Nat.zero_add]; exact hj
    refine ⟨_, ld (c2'.at_ 1 _ rfl) (by kernel_rfl), ?_⟩
    by_cases h32 : pl < 32
    · rw [if_pos h32] at H1
      refine br_t (by simp; omega) ⟨_, ld (c2'.at_ 1 _ rfl) (by kernel_rfl), ?_⟩
      rw [u64w pl (by omega)]
      refine number_s t [47] pl (by omega) e2 r2 F2 (by simp; omega) fun h3 A3 c3 e3 o3 r3 F3 => ⟨_, _, _, rfl, ?_⟩
      have eq : l ++ addrT a ++ [47] ++ Lib.decDigits pl = l ++ (addrT a ++ ([47] ++ dec pl)) := by simp only [List.append_assoc]
      rw [eq] at r3 ⊢
      exact H1 h3 A3 c3 e3 (o2.trans o3) r3 F3
    · rw [if_neg h32, List.append_nil] at H1
      exact br_f (by simp; omega) (H1 h2 A2 c2 e2 o2 r2 F2)
theorem eqSp (a b : Int) : PV Tryz.prog (binOp .eql 71 (.agg #[.int .u16 a, .int .u16 b]) (.agg #[.int .u16 0, .int .u16 65535])) (.bool (decide (a = 0 ∧ b = 65535))) := by
  intro w
  rw [run_eql_struct, run_equalIn_struct w 9999 71 _ _ (by kernel_rfl) (by kernel_rfl)]
  simp [go_sem]
  by_cases g1 : a = 0 <;> by_cases g2 : b = 65535 <;> simp [g1, g2]
theorem pspan_s {h0 h : Hp} {A : Option Addr} {c : Nat} {l : List UInt8} (t : Tab h0) (lo hi : Nat) (hlo : lo < 65536) (hhi : hi < 65536) (e : Ext h0 h) (r : ByT h A c l) (hF : Fresh h0 A) (hl : l.length ≤ 100000) {K : Value → Hp → Prop}
    (H : PrK h0 h (l ++ spanT lo hi) K) : CallsH Tryz.prog 67 #[.slice A l.length c, .agg #[.int .u16 (lo : Int), .int .u16 (hi : Int)]] h K := by
  refine syntax_span_ok _ _ _ _ _ ?_
  unfold syntax_span
  refine newC_i (cs := [.int .u16 (lo : Int), .int .u16 (hi : Int)]) fun h1 e1 c1 b1 z1 => ?_
  refine ⟨_, _, ldS (vs := [.int .u16 (lo : Int), .int .u16 (hi : Int)]) c1 (by kernel_rfl), _, eqSp _ _, ?_⟩
  have H1 := H.step e1.oth
  unfold spanT at H1
  by_cases h0l : lo = 0 ∧ hi = 65535
  · rw [if_pos h0l] at H1
    refine br_t (by simp; omega) ?_
    exact app_s [32, 42] (e.trans e1) (r.ext e1) hF (by simp; omega) fun h2 A2 c2 e2 o2 r2 F2 => ⟨_, _, _, rfl, H1 h2 A2 c2 e2 o2 r2 F2⟩
  · rw [if_neg h0l] at H1
    refine br_f (by simp; omega) ⟨_, ld (c1.at_ 0 _ rfl) (by kernel_rfl), ?_⟩
    have l1 := decl_len lo (by omega)
    rw [u64w lo (by omega)]
    refine number_s t [32] lo (by omega) (e.trans e1) (r.ext e1) hF (by simp; omega) fun h2 A2 c2 e2 o2 r2 F2 => ⟨_, _, _, rfl, ?_⟩
    have c2' : Cl h2 ⟨h.size, 0, none⟩ [.int .u16 (lo : Int), .int .u16 (hi : Int)] := o2.cl b1 (by decide) fun j v hj => by rw [Nat.zero_add]; exact hj
    refine ⟨_, ld (c2'.at_ 1 _ rfl) (by kernel_rfl), _, ld (c2'.at_ 0 _ rfl) (by kernel_rfl), ?_⟩
    by_cases h32 : hi ≠ lo
    · rw [if_pos h32] at H1
      refine br_t (by simp; omega) ⟨_, ld (c2'.at_ 1 _ rfl) (by kernel_rfl), ?_⟩
      rw [u64w hi (by omega)]
      refine number_s t [58] hi (by omega) e2 r2 F2 (by simp at *; omega) fun h3 A3 c3 e3 o3 r3 F3 => ⟨_, _, _, rfl, ?_⟩
      have eq : l ++ [32] ++ Lib.decDigits lo ++ [58] ++ Lib.decDigits hi = l ++ ([32] ++ dec lo ++ ([58] ++ dec hi)) := by simp only [List.append_assoc]
      rw [eq] at r3 ⊢
      exact H1 h3 A3 c3 e3 (o2.trans o3) r3 F3
    · rw [if_neg h32, List.append_nil] at H1
      have eq : l ++ [32] ++ Lib.decDigits lo = l ++ ([32] ++ dec lo) := by simp only [List.append_assoc]
      rw [eq] at r2 ⊢
      exact br_f (by simp; omega) (H1 h2 A2 c2 e2 o2 r2 F2)
theorem pmask_s {h0 h : Hp} {A : Option Addr} {c : Nat} {l : List UInt8} (t : Tab h0) (v cr : Nat) (hv : v < 256) (hc : cr < 256) (e : Ext h0 h) (r : ByT h A c l) (hF : Fresh h0 A) (hl : l.length ≤ 100000) {K : Value → Hp → Prop}
    (H : PrK h0 h (l ++ maskT v cr) K) : CallsH Tryz.prog 68 #[.slice A l.length c, .agg #[.int .u8 (v : Int), .int .u8 (cr : Int)]] h K := by
  refine syntax_mask_ok _ _ _ _ _ ?_
  unfold syntax_mask
  refine newC_i (cs := [.int .u8 (v : Int), .int .u8 (cr : Int)]) fun h1 e1 c1 b1 z1 => ?_
  refine ⟨_, ld (c1.at_ 1 _ rfl) (by kernel_rfl), ?_⟩
  have H1 := H.step e1.oth
  unfold maskT at H1
  by_cases h0l : cr = 0
  · rw [if_pos h0l] at H1
    refine br_t (by simp [h0l]) ?_
    exact app_s [32, 42] (e.trans e1) (r.ext e1) hF (by simp; omega) fun h2 A2 c2 e2 o2 r2 F2 => ⟨_, _, _, rfl, H1 h2 A2 c2 e2 o2 r2 F2⟩
  · rw [if_neg h0l] at H1
    refine br_f (by simpa using h0l) ⟨_, ld (c1.at_ 0 _ rfl) (by kernel_rfl), ?_⟩
    have l1 := decl_len v (by omega)
    rw [u64w v (by omega)]
    refine number_s t [32] v (by omega) (e.trans e1) (r.ext e1) hF (by simp; omega) fun h2 A2 c2 e2 o2 r2 F2 => ⟨_, _, _, rfl, ?_⟩
    have c2' : Cl h2 ⟨h.size, 0, none⟩ [.int .u8 (v : Int), .int .u8 (cr : Int)] := o2.cl b1 (by decide) fun j v hj => by rw [Nat.zero_add]; exact hj
    refine ⟨_, ld (c2'.at_ 1 _ rfl) (by kernel_rfl), ?_⟩
    by_cases h32 : cr < 255
    · rw [if_pos h32] at H1
      refine br_t (by simp; omega) ⟨_, ld (c2'.at_ 1 _ rfl) (by kernel_rfl), ?_⟩
      rw [u64w cr (by omega)]
      refine number_s t [47] cr (by omega) e2 r2 F2 (by simp at *; omega) fun h3 A3 c3 e3 o3 r3 F3 => ⟨_, _, _, rfl, ?_⟩
      have eq : l ++ [32] ++ Lib.decDigits v ++ [47] ++ Lib.decDigits cr = l ++ ([32] ++ dec v ++ ([47] ++ dec cr)) := by simp only [List.append_assoc]
      rw [eq] at r3 ⊢
      exact H1 h3 A3 c3 e3 (o2.trans o3) r3 F3
    · rw [if_neg h32, List.append_nil] at H1
      have eq : l ++ [32] ++ Lib.decDigits v = l ++ ([32] ++ dec v) := by simp only [List.append_assoc]
      rw [eq] at r2 ⊢
      exact br_f (by simp; omega) (H1 h2 A2 c2 e2 o2 r2 F2)
/-! ### a rule -/
structure RN where
  id : Nat
  sA : Nat
  sL : Nat
  dA : Nat
  dL : Nat
  s0 : Nat
  s1 : Nat
  d0 : Nat
  d1 : Nat
  pV : Nat
  pC : Nat
  act : Nat
def RN.r (n : RN) : Rul := ⟨n.id, n.sA, n.sL, n.dA, n.dL, n.s0, n.s1, n.d0, n.d1, n.pV, n.pC, n.act⟩
structure RN.ok (n : RN) : Prop where
  id : n.id < 4294967296
  sA : n.sA < 4294967296
  sL : n.sL ≤ 32
  dA : n.dA < 4294967296
  dL : n.dL ≤ 32
  s0 : n.s0 < 65536
  s1 : n.s1 < 65536
  d0 : n.d0 < 65536
  d1 : n.d1 < 65536
  pV : n.pV < 256
  pC : n.pC < 256
  a0 : 1 ≤ n.act
  a1 : n.act ≤ 4
  chk : n.r.check.1 = 0
def actT (a : Nat) : List UInt8 := if a = 1 then wDeny else if a = 2 then wPermit else if a = 3 then wLog else wQueue
def ruleT (n : RN) : List UInt8 := dec n.id ++ ([32] ++ actT n.act) ++ prefT n.sA n.sL ++ prefT n.dA n.dL ++ spanT n.s0 n.s1 ++ spanT n.d0 n.d1 ++ maskT n.pV n.pC
theorem actT_len (a : Nat) : (actT a).length ≤ 6 := by
  unfold actT
  repeat' split
  all_goals decide
theorem act_ix {a : Nat} (h0 : 1 ≤ a) (h1 : a ≤ 4) : PV Tryz.prog (Instr.index 166 (.agg #[.string (bs []), .string (bs wDeny), .string (bs wPermit), .string (bs wLog), .string (bs wQueue)]) (.int .i64 (a : Int))) (.string (bs (actT a))) := by
  match a, h0, h1 with
  | 1, _, _ => exact fun w => pureRun_run _ _ _ (by kernel_rfl) w
  | 2, _, _ => exact fun w => pureRun_run _ _ _ (by kernel_rfl) w
  | 3, _, _ => exact fun w => pureRun_run _ _ _ (by kernel_rfl) w
  | 4, _, _ => exact fun w => pureRun_run _ _ _ (by kernel_rfl) w
theorem two {u v : Value} {l : List Value} {o : Nat} (h0 : l[o]? = some u) (h1 : l[o + 1]? = some v) : ∀ j x, [u, v][j]? = some x → l[o + j]? = some x := by
  intro j x hj
  match j, hj with
  | 0, hj => rw [← hj]; exact h0
  | 1, hj => rw [← hj]; exact h1
theorem Print_s {h : Hp} (t : Tab h) (n : RN) (k : n.ok) {K : Value → Hp → Prop} (H : ∀ h', Ext h h' → K (.tuple #[.string (bs (ruleT n)), .int .i64 0]) h') :
    CallsH Tryz.prog 36 #[n.r.val] h K := by
  refine syntax_Print_ok _ _ _ _ _ _ _ _ _ _ _ _ ?_
  unfold syntax_Print
  refine newC_i (cs := n.r.enc) fun h1 e1 c1 b1 z1 => ?_
  have t1 := t.ext e1
  refine ⟨_, _, _, _, _, _, _, _, _, _, _, _, ldS (vs := n.r.enc) c1 (by kernel_rfl), ?_⟩
  refine rule_Check_s n.r fun ee ii h2 e2 hei => ⟨_, _, rfl, ?_⟩
  have he : ee = 0 := by have := congrArg Prod.fst hei; rw [k.chk] at this; exact this
  refine br_f (by rw [he]; rfl) ?_
  refine ⟨_, ld ((c1.ext e2).at_ 0 _ rfl) (by kernel_rfl), ?_⟩
  show CallsH Tryz.prog _ #[_, _, .int .u64 (IntKind.u64.wrap ((n.id : Nat) : Int))] h2 _
  have kid := k.id; have k1 := k.s0; have k2 := k.s1; have k3 := k.d0; have k4 := k.d1; have k5 := k.pV; have k6 := k.pC
  rw [u64w n.id (by omega)]
  have l0 := decl_len n.id k.id
  have l1 := actT_len n.act
  have l2 := prefT_len k.sA k.sL
  have l3 := prefT_len k.dA k.dL
  have l4 := spanT_len k.s0 k.s1
  have l5 := spanT_len k.d0 k.d1
  refine number_s (l := []) t1 [] n.id (by omega) e2 ByR.nil (Fresh.none _) (by simp) fun h3 A3 c3 e3 o3 r3 F3 => ⟨_, _, _, rfl, ?_⟩
  rw [List.nil_append, List.nil_append] at r3 ⊢
  refine words_s fun h4 e4 => ⟨_, _, _, _, _, rfl, ?_⟩
  have E4 := e3.trans e4
  refine ⟨_, ld ((c1.ext E4).at_ 11 _ rfl) (by kernel_rfl), ld ((c1.ext e3).at_ 11 _ rfl) (by kernel_rfl), _, act_ix k.a0 k.a1, _, addS [32] _ (by decide) (by omega), ?_⟩
  refine app_s _ E4 (r3.ext e4) F3 (by simp; omega) fun h5 A5 c5 e5 o5 r5 F5 => ⟨_, _, _, rfl, ?_⟩
  have cs : ∀ {h' : Hp}, Ext h1 h' → ∀ (o : Nat) (vs : List Value), (∀ j v, vs[j]? = some v → n.r.enc[o + j]? = some v) → Cl h' ((⟨h.size, 0, none⟩ : Addr).add o) vs := fun e o vs hv => (c1.ext e).sub o hv
  refine ⟨_, _, ldS (vs := [.int .u32 (n.sA : Int), .int .i64 (n.sL : Int)]) (cs e5 1 _ (two rfl rfl)) (by kernel_rfl), ?_⟩
  refine pprefix_s t1 n.sA n.sL k.sA k.sL e5 r5 F5 (by simp; omega) fun h6 A6 c6 e6 o6 r6 F6 => ⟨_, _, _, rfl, ?_⟩
  refine ⟨_, _, ldS (vs := [.int .u32 (n.dA : Int), .int .i64 (n.dL : Int)]) (cs e6 3 _ (two rfl rfl)) (by kernel_rfl), ?_⟩
  refine pprefix_s t1 n.dA n.dL k.dA k.dL e6 r6 F6 (by simp; omega) fun h7 A7 c7 e7 o7 r7 F7 => ⟨_, _, _, rfl, ?_⟩
  refine ⟨_, _, ldS (vs := [.int .u16 (n.s0 : Int), .int .u16 (n.s1 : Int)]) (cs e7 5 _ (two rfl rfl)) (by kernel_rfl), ?_⟩
  refine pspan_s t1 n.s0 n.s1 k.s0 k.s1 e7 r7 F7 (by simp; omega) fun h8 A8 c8 e8 o8 r8 F8 => ⟨_, _, _, rfl, ?_⟩
  refine ⟨_, _, ldS (vs := [.int .u16 (n.d0 : Int), .int .u16 (n.d1 : Int)]) (cs e8 7 _ (two rfl rfl)) (by kernel_rfl), ?_⟩
  refine pspan_s t1 n.d0 n.d1 k.d0 k.d1 e8 r8 F8 (by simp; omega) fun h9 A9 c9 e9 o9 r9 F9 => ⟨_, _, _, rfl, ?_⟩
  refine ⟨_, _, ldS (vs := [.int .u8 (n.pV : Int), .int .u8 (n.pC : Int)]) (cs e9 9 _ (two rfl rfl)) (by kernel_rfl), ?_⟩
  refine pmask_s t1 n.pV n.pC k.pV k.pC e9 r9 F9 (by simp; omega) fun h10 A10 c10 e10 o10 r10 F10 => ⟨_, _, _, rfl, ?_⟩
  have hlen : 0 < (ruleT n).length := by
    have := List.length_pos_iff.2 (dec_ne n.id)
    unfold ruleT
    simp only [List.length_append]
    omega
  obtain ⟨a, ha, cl, hlc⟩ := ByR.clT (l := ruleT n) r10 hlen
  subst ha
  exact ⟨_, convCl undBy undStr undU8 cl rfl, H h10 (e1.trans e10)⟩
end Go.Proofs.YtfdpccbajaiepaaGreatDoor.Pr

/- What is printed of a rule is lexed, and read as that rule. -/
namespace Go.Proofs.YtfdpccbajaiepaaGreatDoor.Lx
open Go Go.RowKit Go.Proofs.YtfdpccbajaiepaaGreatDoor.Sx Go.Proofs.YtfdpccbajaiepaaGreatDoor.Pr Go.Proofs.YtfdpccbajaiepaaGreatDoor.Fs
set_option linter.unusedVariables false
set_option linter.unusedSimpArgs false
/-- These tokens are read as v; none ends a line. -/
structure PieceK {α : Type} (R : List TokM → ReR α) (v : α) (pre : List TokM) : Prop where
  hd : ∃ t l, pre = t :: l ∧ plainT t
  rd : ∀ rest, Sep rest → R (pre ++ rest) = .ok (v, rest)
  nk : ∀ t ∈ pre, t.kind ≠ 4
theorem PieceK.sep {α : Type} {R : List TokM → ReR α} {v : α} {pre : List TokM} (p : PieceK R v pre) (rest : List TokM) : Sep (pre ++ rest) := by
  obtain ⟨t, l, rfl, h⟩ := p.hd
  exact ⟨t, l ++ rest, rfl, h⟩
def PrintsK {α : Type} (T : List UInt8) (R : List TokM → ReR α) (v : α) : Prop :=
  ∀ (r : List UInt8) (line col : Nat) (P : List TokM → Prop), sepB r → (∀ col', Lexes r line col' fun ts => ∀ pre, PieceK R v pre → P (pre ++ ts)) → Lexes (T ++ r) line col P
theorem printsK_blank {α : Type} {T : List UInt8} {R : List TokM → ReR α} {v : α} (h : PrintsK T R v) : PrintsK (32 :: T) R v := fun r line col P hs H => lex_blank rfl (h r line (col + 1) P hs H)
theorem num_nk {t : TokM} {u : Nat} (h : isNum t u) : t.kind ≠ 4 := by rw [h.k]; omega
theorem sgn_nk {t : TokM} {c : UInt8} (h : isSgn t c) : t.kind ≠ 4 := by rw [h.k]; omega
theorem printsK_num {u : Nat} (hu : u < 4294967296) {mx : Int} (hm : (u : Int) ≤ mx) : PrintsK (dec u) (numR mx) (u : Int) := fun r line col P hs H =>
  lex_num hu (hs.kind 2 (by omega)) fun col' => (H col').mono fun ts h t ht => h [t] ⟨⟨t, [], rfl, num_plain ht⟩, fun rest _ => num_ok ht hm rest, fun x hx => by
    simp only [List.mem_singleton] at hx
    subst hx
    exact num_nk ht⟩
theorem lex_addrK {a : Nat} (ha : a < 4294967296) {r : List UInt8} {line col : Nat} {P : List TokM → Prop} (hr : ∀ x, r.head? = some x → kindB x ≠ 2)
    (H : ∀ col', Lexes r line col' fun ts => ∀ t l, t.kind = 2 → (∀ x ∈ t :: l, x.kind ≠ 4) → (∀ rest, addrR (t :: l ++ rest) = .ok ((a : Int), rest)) → P (t :: l ++ ts)) : Lexes (addrT0 a ++ r) line col P := by
  have lt : ∀ k : Nat, a / 2 ^ k % 256 < 4294967296 := fun k => by have : a / 2 ^ k % 256 < 256 := Nat.mod_lt _ (by decide); omega
  have h46 : ∀ x l, (46 :: l : List UInt8).head? = some x → kindB x ≠ 2 := by
    intro x l hx
    simp only [List.head?_cons, Option.some.injEq] at hx
    subst hx
    decide
  unfold addrT0
  simp only [List.append_assoc, List.cons_append]
  refine lex_num (lt 24) (fun x hx => h46 x _ hx) fun _ => lex_sign rfl fun _ => lex_num (lt 16) (fun x hx => h46 x _ hx) fun _ => lex_sign rfl fun _ => lex_num (lt 8) (fun x hx => h46 x _ hx) fun _ => lex_sign rfl fun _ => lex_num (lt 0) hr fun c' => (H c').mono ?_
  intro ts h n0 h0 s1 k1 n1 h1 s2 k2 n2 h2 s3 k3 n3 h3
  refine h n3 [s3, n2, s2, n1, s1, n0] h3.k (fun x hx => ?_) (fun rest => addr_ok ha h3 h2 h1 h0 k3 k2 k1 rest)
  simp only [List.mem_cons, List.not_mem_nil, or_false] at hx
  rcases hx with rfl | rfl | rfl | rfl | rfl | rfl | rfl
  · exact num_nk h3
  · exact sgn_nk k3
  · exact num_nk h2
  · exact sgn_nk k2
  · exact num_nk h1
  · exact sgn_nk k1
  · exact num_nk h0
theorem star_ok {t : TokM} (h : isSgn t 42) : isSign t [42] = true ∧ plainT t := ⟨by rw [sgn_is h]; rfl, by rw [sgn_is h]; rfl, by rw [sgn_is h]; rfl⟩
/-- A star. -/
theorem printsK_star {α : Type} {R : List TokM → ReR α} {v : α} (hR : ∀ t rest, isSgn t 42 → R (t :: rest) = .ok (v, rest)) : PrintsK [32, 42] R v := fun r line col P hs H =>
  lex_blank rfl (lex_sign rfl fun col' => (H col').mono fun ts h t ht => h [t] ⟨⟨t, [], rfl, (star_ok ht).2⟩, fun rest _ => hR t rest ht, fun x hx => by
    simp only [List.mem_singleton] at hx
    subst hx
    exact sgn_nk ht⟩)
theorem i64w (n : Nat) (h : n < 4294967296) : IntKind.i64.wrap (n : Int) = (n : Int) := wrap_in (by omega) (by omega)
theorem h_ne {c x : UInt8} {l : List UInt8} (hc : kindB c = 3) (h : (c :: l).head? = some x) : kindB x ≠ 2 := by
  simp only [List.head?_cons, Option.some.injEq] at h
  subst h
  omega
theorem printsK_pref {a l : Nat} (ha : a < 4294967296) (hl : l ≤ 32) (h0 : l = 0 → a = 0) : PrintsK (prefT a l) prefR ((a : Int), (l : Int)) := by
  unfold prefT
  by_cases hl0 : l = 0
  · rw [if_pos hl0]
    have := h0 hl0
    subst hl0 this
    exact printsK_star fun t rest ht => by unfold prefR; simp only [(star_ok ht).1]; rfl
  · rw [if_neg hl0, addrT_eq]
    by_cases h32 : l < 32
    · rw [if_pos h32]
      intro r line col P hs H
      simp only [List.cons_append, List.append_assoc, List.nil_append]
      refine lex_blank rfl (lex_addrK ha (fun x hx => h_ne rfl hx) fun _ => lex_sign rfl fun _ => lex_num (by omega) (hs.kind 2 (by omega)) fun c' => (H c').mono ?_)
      intro ts h n hn s ks t m hk hnk hrd
      have := h (t :: m ++ [s, n]) ⟨⟨t, m ++ [s, n], rfl, kind2_plain hk⟩, fun rest _ => ?_, fun x hx => ?_⟩
      · simpa using this
      · have e1 : (t :: m ++ [s, n]) ++ rest = t :: (m ++ s :: n :: rest) := by simp
        have e2 := hrd (s :: n :: rest)
        rw [List.cons_append] at e2
        rw [e1]
        unfold prefR
        simp only [sgn_kind (show t.kind ≠ 3 by omega), e2]
        simp only [sgn_is ks, decide_true, if_true, num_ok hn (show (l : Int) ≤ 32 by omega)]
        simp only [i64w l (by omega)]
        rfl
      · rw [List.mem_append] at hx
        rcases hx with hx | hx
        · exact hnk x hx
        · simp only [List.mem_cons, List.not_mem_nil, or_false] at hx
          rcases hx with rfl | rfl
          · exact sgn_nk ks
          · exact num_nk hn
    · rw [if_neg h32, List.append_nil]
      have : l = 32 := by omega
      subst this
      refine printsK_blank fun r line col P hs H => lex_addrK ha (hs.kind 2 (by omega)) fun c' => (H c').mono fun ts h t m hk hnk hrd => h (t :: m) ⟨⟨t, m, rfl, kind2_plain hk⟩, fun rest hsep => ?_, hnk⟩
      obtain ⟨t2, m2, rfl, hp⟩ := hsep
      have e2 := hrd (t2 :: m2)
      rw [List.cons_append] at e2 ⊢
      unfold prefR
      simp only [sgn_kind (show t.kind ≠ 3 by omega), e2]
      simp only [hp.1]
      rfl
theorem u16n (n : Nat) (h : n < 65536) : IntKind.u16.wrap (n : Int) = (n : Int) := by
  simp only [IntKind.wrap, IntKind.bits, IntKind.signed]
  simp
  omega
theorem u8n (n : Nat) (h : n < 256) : IntKind.u8.wrap (n : Int) = (n : Int) := by
  simp only [IntKind.wrap, IntKind.bits, IntKind.signed]
  simp
  omega
theorem printsK_span {lo hi : Nat} (hlo : lo < 65536) (hhi : hi < 65536) : PrintsK (spanT lo hi) spanR ((lo : Int), (hi : Int)) := by
  unfold spanT
  by_cases hl0 : lo = 0 ∧ hi = 65535
  · rw [if_pos hl0]
    obtain ⟨rfl, rfl⟩ := hl0
    exact printsK_star fun t rest ht => by unfold spanR; simp only [(star_ok ht).1]; rfl
  · rw [if_neg hl0]
    by_cases h32 : hi ≠ lo
    · rw [if_pos h32]
      intro r line col P hs H
      simp only [List.cons_append, List.append_assoc, List.nil_append]
      refine lex_blank rfl (lex_num (by omega) (fun x hx => h_ne rfl hx) fun _ => lex_sign rfl fun _ => lex_num (by omega) (hs.kind 2 (by omega)) fun c' => (H c').mono ?_)
      intro ts h n hn s ks t ht
      refine h [t, s, n] ⟨⟨t, [s, n], rfl, num_plain ht⟩, fun rest _ => ?_, fun x hx => ?_⟩
      · show spanR (t :: s :: n :: rest) = _
        unfold spanR
        simp only [sgn_kind (show t.kind ≠ 3 by rw [ht.k]; omega), num_ok ht (show (lo : Int) ≤ 65535 by omega)]
        simp only [sgn_is ks, decide_true, if_true, num_ok hn (show (hi : Int) ≤ 65535 by omega), u16n lo hlo, u16n hi hhi]
        rfl
      · simp only [List.mem_cons, List.not_mem_nil, or_false] at hx
        rcases hx with rfl | rfl | rfl
        · exact num_nk ht
        · exact sgn_nk ks
        · exact num_nk hn
    · rw [if_neg h32, List.append_nil]
      have : hi = lo := by omega
      subst this
      refine printsK_blank fun r line col P hs H => lex_num (by omega) (hs.kind 2 (by omega)) fun c' => (H c').mono fun ts h t ht => h [t] ⟨⟨t, [], rfl, num_plain ht⟩, fun rest hsep => ?_, fun x hx => by
        simp only [List.mem_singleton] at hx
        subst hx
        exact num_nk ht⟩
      obtain ⟨t2, m2, rfl, hp⟩ := hsep
      show spanR (t :: t2 :: m2) = _
      unfold spanR
      simp only [sgn_kind (show t.kind ≠ 3 by rw [ht.k]; omega), num_ok ht (show (hi : Int) ≤ 65535 by omega), hp.2, u16n hi hhi]
      rfl
theorem printsK_mask {v c : Nat} (hv : v < 256) (hc : c < 256) (h0 : c = 0 → v = 0) : PrintsK (maskT v c) maskR ((v : Int), (c : Int)) := by
  unfold maskT
  by_cases hl0 : c = 0
  · rw [if_pos hl0]
    have := h0 hl0
    subst hl0 this
    exact printsK_star fun t rest ht => by unfold maskR; simp only [(star_ok ht).1]; rfl
  · rw [if_neg hl0]
    by_cases h32 : c < 255
    · rw [if_pos h32]
      intro r line col P hs H
      simp only [List.cons_append, List.append_assoc, List.nil_append]
      refine lex_blank rfl (lex_num (by omega) (fun x hx => h_ne rfl hx) fun _ => lex_sign rfl fun _ => lex_num (by omega) (hs.kind 2 (by omega)) fun c' => (H c').mono ?_)
      intro ts h n hn s ks t ht
      refine h [t, s, n] ⟨⟨t, [s, n], rfl, num_plain ht⟩, fun rest _ => ?_, fun x hx => ?_⟩
      · show maskR (t :: s :: n :: rest) = _
        unfold maskR
        simp only [sgn_kind (show t.kind ≠ 3 by rw [ht.k]; omega), num_ok ht (show (v : Int) ≤ 255 by omega)]
        simp only [sgn_is ks, decide_true, if_true, num_ok hn (show (c : Int) ≤ 255 by omega), u8n v hv, u8n c hc]
        rfl
      · simp only [List.mem_cons, List.not_mem_nil, or_false] at hx
        rcases hx with rfl | rfl | rfl
        · exact num_nk ht
        · exact sgn_nk ks
        · exact num_nk hn
    · rw [if_neg h32, List.append_nil]
      have : c = 255 := by omega
      subst this
      refine printsK_blank fun r line col P hs H => lex_num (by omega) (hs.kind 2 (by omega)) fun c' => (H c').mono fun ts h t ht => h [t] ⟨⟨t, [], rfl, num_plain ht⟩, fun rest hsep => ?_, fun x hx => by
        simp only [List.mem_singleton] at hx
        subst hx
        exact num_nk ht⟩
      obtain ⟨t2, m2, rfl, hp⟩ := hsep
      show maskR (t :: t2 :: m2) = _
      unfold maskR
      simp only [sgn_kind (show t.kind ≠ 3 by rw [ht.k]; omega), num_ok ht (show (v : Int) ≤ 255 by omega), hp.1, u8n v hv]
      rfl
theorem actT_facts (a : Nat) : actT a ≠ [] ∧ (actT a).length ≤ 16 ∧ ∀ c ∈ actT a, kindB c = 1 := by
  unfold actT
  split
  · exact ⟨by decide, by decide, by decide⟩
  · split
    · exact ⟨by decide, by decide, by decide⟩
    · split
      · exact ⟨by decide, by decide, by decide⟩
      · exact ⟨by decide, by decide, by decide⟩
theorem act_ok {t : TokM} {a : Nat} (h0 : 1 ≤ a) (h1 : a ≤ 4) (ht : Lx.isWrd t (actT a)) (rest : List TokM) : actR (t :: rest) = .ok ((a : Int), rest) := by
  unfold actR isWord
  simp only [ht.k, ht.x, true_and]
  match a, h0, h1 with
  | 1, _, _ => rfl
  | 2, _, _ => rfl
  | 3, _, _ => rfl
  | 4, _, _ => rfl
theorem printsK_act {a : Nat} (h0 : 1 ≤ a) (h1 : a ≤ 4) : PrintsK (32 :: actT a) actR (a : Int) := by
  obtain ⟨f1, f2, f3⟩ := actT_facts a
  refine printsK_blank fun r line col P hs H => lex_word f1 f2 f3 (hs.kind 1 (by omega)) fun c' => (H c').mono fun ts h t ht => h [t] ⟨⟨t, [], rfl, ⟨sgn_kind (by rw [ht.k]; omega) _, sgn_kind (by rw [ht.k]; omega) _⟩⟩, fun rest _ => act_ok h0 h1 ht rest, fun x hx => by
    simp only [List.mem_singleton] at hx
    subst hx
    rw [ht.k]; omega⟩
end Go.Proofs.YtfdpccbajaiepaaGreatDoor.Lx

/- strings.Builder: what is written stands in it. -/
namespace Go.Proofs.YtfdpccbajaiepaaGreatDoor.Pr
open Go Go.RowKit Go.Proofs.YtfdpccbajaiepaaGreatDoor.Sx Go.Proofs.YtfdpccbajaiepaaGreatDoor.Sxp Go.Proofs.YtfdpccbajaiepaaGreatDoor.Sxp.Fx Go.Proofs.YtfdpccbajaiepaaGreatDoor.Lx
set_option linter.unusedVariables false
set_option linter.unusedSimpArgs false
set_option maxRecDepth 10000
/-- All is kept but block b and rows of bytes. -/
def OthB (b : Nat) (h h' : Hp) : Prop := ∀ (k : Nat) (o : Obj), h[k]? = some o → k ≠ b → (∀ c fz, o ≠ Obj.cells c 5 fz) → h'[k]? = some o
theorem OthB.trans {b : Nat} {x y z : Hp} (p : OthB b x y) (q : OthB b y z) : OthB b x z := fun k o h hb ho => q k o (p k o h hb ho) hb ho
theorem OthB.of {b : Nat} {h h' : Hp} (p : OthT h h') : OthB b h h' := fun k o h hb ho => p k o h ho
theorem OthB.fr {b : Nat} {h h' : Hp} (f : Fr (fun k => k = b) h h') : OthB b h h' := fun k o h hb ho => f.get h hb
theorem OthB.cells {b : Nat} {h h' : Hp} (x : OthB b h h') {k : Nat} {cs : Array Value} {T : TypeId} {fz : Nat × Nat} (hb : h[k]? = some (.cells cs T fz)) (hk : k ≠ b) (hT : T ≠ 5) : h'[k]? = some (.cells cs T fz) := x k _ hb hk (fun c f h => by injection h with _ h1; exact hT h1)
def bdC (p : Option Addr) (A : Option Addr) (n c : Nat) : List Value := [.pointer p, .slice A n c]
/-- A builder of the call's own that holds these bytes. -/
structure BdS (h0 h : Hp) (b : Nat) (l : List UInt8) : Prop where
  e : Ext h0 h
  hb : h0.size ≤ b
  ex : ∃ p A c, (p = none ∨ p = some ⟨b, 0, none⟩) ∧ h[b]? = some (.cells (bdC p A l.length c).toArray 113 (0, 0)) ∧ ByT h A c l ∧ Fresh h0 A ∧ ¬ blk A b
/-- .. written to before. -/
structure BdW (h0 h : Hp) (b : Nat) (A : Option Addr) (c : Nat) (l : List UInt8) : Prop where
  e : Ext h0 h
  hb : h0.size ≤ b
  bb : h[b]? = some (.cells (bdC (some ⟨b, 0, none⟩) A l.length c).toArray 113 (0, 0))
  r : ByT h A c l
  f : Fresh h0 A
  nb : ¬ blk A b
theorem undBd : Tryz.prog.underlying 111 = some (.pointer 113) := by kernel_rfl
theorem undUn : Tryz.prog.underlying 89 = some .unsafePointer := by kernel_rfl
theorem bdSz : (Tryz.prog.info? 113).map (·.size) = some 2 := by kernel_rfl
theorem bd_neq (a : Addr) : PV Tryz.prog (binOp .neq 111 (.pointer (some a)) (.pointer (some a))) (.bool false) := by
  intro w
  cases hi : Tryz.prog.info? 113 with
  | none => have := bdSz; rw [hi] at this; cases this
  | some j => exact Lib.run_neq_ptr_same w a undBd hi
theorem bd_shape {h : Hp} {b : Nat} {p A : Option Addr} {n c : Nat} (hb : h[b]? = some (.cells (bdC p A n c).toArray 113 (0, 0))) (w : World) (hw : w.heap = h) : w.shape? b = some (113, 2) := by
  subst hw
  simp [World.shape?, hb, bdC]
theorem bd_lies : liesAt Tryz.prog Tryz.prog.depth 113 (2 / Tryz.prog.cellsOf 113) 0 113 1 = true := by kernel_rfl
theorem bd_to {h : Hp} {b : Nat} {p A : Option Addr} {n c : Nat} (hb : h[b]? = some (.cells (bdC p A n c).toArray 113 (0, 0))) : HV Tryz.prog (convert 111 89 (.pointer (some ⟨b, 0, none⟩))) h (.pointer (some ⟨b, 0, none⟩)) := by
  intro w hw
  cases hi : Tryz.prog.info? 113 with
  | none => have := bdSz; rw [hi] at this; cases this
  | some j =>
    have hj : j.size = 2 := by have := bdSz; rw [hi] at this; simpa using this
    exact Lib.run_to_unsafe w ⟨b, 0, none⟩ undBd undUn hi (by omega) (bd_shape hb w hw) (by show 0 < 2; omega)
theorem bd_from {h : Hp} {b : Nat} {p A : Option Addr} {n c : Nat} (hb : h[b]? = some (.cells (bdC p A n c).toArray 113 (0, 0))) : HV Tryz.prog (convert 89 111 (.pointer (some ⟨b, 0, none⟩))) h (.pointer (some ⟨b, 0, none⟩)) := by
  intro w hw
  cases hi : Tryz.prog.info? 113 with
  | none => have := bdSz; rw [hi] at this; cases this
  | some j => exact Lib.run_from_unsafe w ⟨b, 0, none⟩ undUn undBd hi (bd_shape hb w hw) bd_lies
theorem check_s {h0 h : Hp} {b : Nat} {l : List UInt8} (S : BdS h0 h b l) {K : Value → Hp → Prop} (H : ∀ h' A c, BdW h0 h' b A c l → Fr (fun k => k = b) h h' → K (.tuple #[]) h') :
    CallsH Tryz.prog 69 #[.pointer (some ⟨b, 0, none⟩)] h K := by
  obtain ⟨e, hb, p, A, c, hp, bb, r, f, nb⟩ := S
  refine strings_Builder_copyCheck_ok _ ?_
  unfold strings_Builder_copyCheck
  have cl : Cl h ⟨b, 0, none⟩ (bdC p A l.length c) := Cl.of_block bb fun j v hj => by rw [Nat.zero_add]; exact hj
  refine ⟨_, ld (cl.at_ 0 _ rfl) (by kernel_rfl), _, eqNil (by kernel_rfl), ?_⟩
  rcases hp with rfl | rfl
  · refine br_t rfl ⟨_, bd_to bb, _, bd_from bb, ?_⟩
    refine HU_st (o := 0) (us := [.pointer (some ⟨b, 0, none⟩)]) bb rfl (by kernel_rfl) (by simp [bdC]) rfl ?_
    have f2 : Fr (fun k => k = b) h (setB h b (bdC (some ⟨b, 0, none⟩) A l.length c) 113) := setB_fr rfl
    exact H _ A c ⟨extOwn e f2 (fun k hk => by omega), hb, setB_get (lt_of_get bb), r.keep f2 (fun k hk he => nb (he ▸ hk)), f, nb⟩ f2
  · refine br_f rfl ⟨_, ld (cl.at_ 0 _ rfl) (by kernel_rfl), false, fun w hw => bd_neq _ w, br_f rfl ?_⟩
    exact H h A c ⟨e, hb, bb, r, f, nb⟩ (Fr.refl _ _)
/-- The buffer stored. -/
theorem bd_buf {h0 h h1 : Hp} {b : Nat} {A A' : Option Addr} {c c' : Nat} {l l' : List UInt8} (S : BdW h0 h b A c l) (e1 : Ext h0 h1) (o1 : OthT h h1) (r1 : ByT h1 A' c' l') (f1 : Fresh h0 A') {K : Hp → Prop}
    (H : ∀ h', BdS h0 h' b l' → OthB b h h' → K h') : HU Tryz.prog (Instr.storeAt 58 (.pointer (some ((⟨b, 0, none⟩ : Addr).add 1))) (.slice A' l'.length c')) h1 K := by
  have bb1 := o1.cells S.bb (by decide)
  have nb' : ¬ blk A' b := by
    rintro ⟨a, ha, hk⟩
    rcases r1.row with ⟨rfl, _⟩ | ⟨g, rest, rfl, hb, _⟩
    · cases ha
    · injection ha with ha
      subst ha
      simp only at hk
      subst hk
      rw [hb] at bb1
      injection bb1 with bb1
      injection bb1 with _ h3
      exact absurd h3 (by decide)
  rw [add_eq0]
  refine HU_st (o := 1) (us := [.slice A' l'.length c']) bb1 rfl (by kernel_rfl) (by simp [bdC]) rfl ?_
  have f2 : Fr (fun k => k = b) h1 (setB h1 b (bdC (some ⟨b, 0, none⟩) A' l'.length c') 113) := setB_fr rfl
  refine H _ ⟨extOwn e1 f2 (fun k hk => by have := S.hb; omega), S.hb, _, A', c', .inr rfl, setB_get (lt_of_get bb1), r1.keep f2 (fun k hk he => nb' (he ▸ hk)), f1, nb'⟩ ((OthB.of o1).trans (OthB.fr f2))
theorem wstr_s {h0 h : Hp} {b : Nat} {l : List UInt8} (S : BdS h0 h b l) (s : List UInt8) (hl : l.length + s.length ≤ 1000000000) {K : Value → Hp → Prop} (H : ∀ h', BdS h0 h' b (l ++ s) → OthB b h h' → K (.tuple #[.int .i64 ((bs s).size : Int), .nilIface]) h') :
    CallsH Tryz.prog 37 #[.pointer (some ⟨b, 0, none⟩), .string (bs s)] h K := by
  refine strings_Builder_WriteString_ok _ _ ?_
  unfold strings_Builder_WriteString
  refine check_s S fun h1 A c W f1 => ⟨rfl, ?_⟩
  have cl : Cl h1 ⟨b, 0, none⟩ (bdC (some ⟨b, 0, none⟩) A l.length c) := Cl.of_block W.bb fun j v hj => by rw [Nat.zero_add]; exact hj
  refine ⟨_, _, _, ld (cl.at_ 1 _ rfl) (by kernel_rfl), ?_⟩
  refine app_s s W.e W.r W.f hl fun h2 A2 c2 e2 o2 r2 f2 => ⟨_, _, _, rfl, ?_⟩
  exact bd_buf W e2 o2 r2 f2 fun h3 S3 o3 => H h3 S3 ((OthB.fr f1).trans o3)
theorem wbyte_s {h0 h : Hp} {b : Nat} {l : List UInt8} (S : BdS h0 h b l) (x : UInt8) (hl : l.length ≤ 1000000000) {K : Value → Hp → Prop} (H : ∀ h', BdS h0 h' b (l ++ [x]) → OthB b h h' → K .nilIface h') :
    CallsH Tryz.prog 51 #[.pointer (some ⟨b, 0, none⟩), .int .u8 (x.toNat : Int)] h K := by
  refine strings_Builder_WriteByte_ok _ _ ?_
  unfold strings_Builder_WriteByte
  refine check_s S fun h1 A c W f1 => ⟨rfl, ?_⟩
  have cl : Cl h1 ⟨b, 0, none⟩ (bdC (some ⟨b, 0, none⟩) A l.length c) := Cl.of_block W.bb fun j v hj => by rw [Nat.zero_add]; exact hj
  refine ⟨_, _, _, ld (cl.at_ 1 _ rfl) (by kernel_rfl), ?_⟩
  refine newC_i (cs := encB x) fun h2 e2 c2 b2 z2 => ?_
  obtain ⟨i, z, hi, hz, hzl, hi1, hb⟩ := byInfo
  refine appF (enc := encB) (sz := 1) (x := x) (fun _ => rfl) (fun _ => rfl) undBy hi hz (by omega) hi1 (by omega) (by omega) (W.e.trans e2) (W.r.ext e2) W.f c2 hl fun h3 A3 c3 e3 r3 f3 fr3 => ⟨_, _, _, rfl, ?_⟩
  have r2 : ByT h2 A c l := W.r.ext e2
  exact bd_buf W e3 ((Ext.oth e2).trans (fr3.oth r2)) r3 f3 fun h4 S4 o4 => H h4 S4 ((OthB.fr f1).trans o4)
theorem blen_s {h0 h : Hp} {b : Nat} {l : List UInt8} (S : BdS h0 h b l) {K : Value → Hp → Prop} (H : K (.int .i64 (l.length : Int)) h) : CallsH Tryz.prog 52 #[.pointer (some ⟨b, 0, none⟩)] h K := by
  obtain ⟨e, hb, p, A, c, hp, bb, r, f, nb⟩ := S
  refine strings_Builder_Len_ok _ ?_
  unfold strings_Builder_Len
  have cl : Cl h ⟨b, 0, none⟩ (bdC p A l.length c) := Cl.of_block bb fun j v hj => by rw [Nat.zero_add]; exact hj
  exact ⟨_, _, _, ld (cl.at_ 1 _ rfl) (by kernel_rfl), H⟩
theorem own_of {w : World} {B : Nat} {A : Option Addr} {c : Nat} {l : List UInt8} (r : ByT w.heap A c l) (hF : ∀ k, blk A k → B ≤ k) : w.ownsRow B 5 1 (.slice A l.length c) l.length (Lib.byteCells l) := by
  have r1 := r.row
  unfold Row at r1
  rw [flatB] at r1
  refine ⟨by rw [Lib.byteCells_length, Nat.mul_one], ?_⟩
  rcases r1 with ⟨rfl, h1, rfl, h2⟩ | ⟨g, rest, rfl, hb, h1, h2, h3⟩
  · left
    exact ⟨by rw [h1], h1⟩
  · right
    refine ⟨g, c, (Lib.byteCells l ++ rest).toArray, rfl, hF g ⟨_, rfl, rfl⟩, hb, h3, ?_, by simpa using h2, ?_⟩
    · have := r.cap
      unfold maxLen
      omega
    · simp only [Nat.mul_one]
      rw [← Lib.byteCells_length l]
      simp
/-- String: the bytes. -/
theorem bstr_s {h0 h : Hp} {b : Nat} {l : List UInt8} (S : BdS h0 h b l) {K : Value → Hp → Prop} (H : ∀ h', Ext h0 h' → K (.string (bs l)) h') : CallsH Tryz.prog 38 #[.pointer (some ⟨b, 0, none⟩)] h K := fun w hw => by
  subst hw
  obtain ⟨e, hb, p, A, c, hp, bb, r, f, nb⟩ := S
  have ib : Lib.IsBuilder 113 5 h0.size b (Lib.byteCells l) w := by
    have own := own_of r f
    have nbo : (Value.slice A l.length c).ownBlock ≠ some b := by
      cases A with
      | none => simp [Value.ownBlock]
      | some a =>
        simp only [Value.ownBlock, ne_eq, Option.some.injEq]
        exact fun h => nb ⟨a, rfl, h⟩
    have own' : w.ownsRow h0.size 5 1 (.slice A l.length c) (Lib.byteCells l).length (Lib.byteCells l) := by rw [Lib.byteCells_length]; exact own
    rcases hp with rfl | rfl
    · exact .inl ⟨hb, _, bb, own', nbo⟩
    · exact .inr ⟨hb, _, bb, own', nbo⟩
  refine (Tryz.Builder_String_any h0.size b l w ib e.size).mono fun en w' hh => ?_
  obtain ⟨rfl, bl⟩ := hh
  exact ⟨_, rfl, ⟨bl.os, bl.tape, bl.output, trivial⟩, H _ ⟨Nat.le_trans e.size bl.size, fun k hk => by rw [bl.block k hk, e.old k hk]⟩⟩
end Go.Proofs.YtfdpccbajaiepaaGreatDoor.Pr

/- Printing: rules. -/
namespace Go.Proofs.YtfdpccbajaiepaaGreatDoor.Pr
open Go Go.RowKit Go.Proofs.YtfdpccbajaiepaaGreatDoor.Sx Go.Proofs.YtfdpccbajaiepaaGreatDoor.Sxp Go.Proofs.YtfdpccbajaiepaaGreatDoor.Sxp.Fx Go.Proofs.YtfdpccbajaiepaaGreatDoor.Lx Go.Proofs.YtfdpccbajaiepaaGreatDoor.Fs
set_option linter.unusedVariables false
set_option linter.unusedSimpArgs false
set_option maxRecDepth 10000
theorem BdS.ext {h0 h h' : Hp} {b : Nat} {l : List UInt8} (S : BdS h0 h b l) (e : Ext h h') : BdS h0 h' b l := by
  obtain ⟨e0, hb, p, A, c, hp, bb, r, f, nb⟩ := S
  exact ⟨e0.trans e, hb, p, A, c, hp, by rw [e.old _ (lt_of_get bb)]; exact bb, r.ext e, f, nb⟩
theorem BdS.map {h0 h h' : Hp} {b gm : Nat} {l : List UInt8} {m : List (Int × Int)} (S : BdS h0 h b l) (M : MapN h gm m) (hg : h0.size ≤ gm) (f : Fr (fun k => k = gm) h h') : BdS h0 h' b l := by
  obtain ⟨e0, hb, p, A, c, hp, bb, r, fr, nb⟩ := S
  obtain ⟨es, ck, mb, _⟩ := M
  have n1 : b ≠ gm := by rintro rfl; rw [bb] at mb; cases mb
  have n2 : ∀ k, blk A k → k ≠ gm := by
    rintro k ⟨a, ha, rfl⟩ he
    rcases r.row with ⟨rfl, _⟩ | ⟨g, rest, rfl, hb', _⟩
    · cases ha
    · injection ha with ha
      subst ha
      simp only at he
      subst he
      rw [hb'] at mb
      cases mb
  exact ⟨extOwn e0 f (fun k hk => by omega), hb, p, A, c, hp, f.get bb n1, r.keep f n2, fr, nb⟩
theorem MapN.othB {h h' : Hp} {b gm : Nat} {m : List (Int × Int)} (M : MapN h gm m) (o : OthB b h h') (hb : gm ≠ b) : MapN h' gm m := by
  obtain ⟨es, ck, mb, he⟩ := M
  exact ⟨es, ck, o gm _ mb hb (fun c fz h => by cases h), he⟩
def rulesT (ns : List RN) : List UInt8 := ns.flatMap fun n => ruleT n ++ [10]
theorem ruleT_len {n : RN} (k : n.ok) : (ruleT n).length ≤ 199 := by
  have l0 := decl_len n.id k.id
  have l1 := actT_len n.act
  have l2 := prefT_len k.sA k.sL
  have l3 := prefT_len k.dA k.dL
  have l4 := spanT_len k.s0 k.s1
  have l5 := spanT_len k.d0 k.d1
  have l6 := maskT_len k.pV k.pC
  unfold ruleT
  simp only [List.length_append, List.length_cons, List.length_nil, dec]
  omega
theorem rulesT_len : ∀ (ns : List RN), (∀ n ∈ ns, n.ok) → (rulesT ns).length ≤ 200 * ns.length
  | [], _ => by simp [rulesT]
  | n :: ns, h => by
    have h1 := ruleT_len (h n (by simp))
    have h2 := rulesT_len ns fun x hx => h x (by simp [hx])
    unfold rulesT at h2 ⊢
    rw [List.flatMap_cons, List.length_append, List.length_append]
    simp only [List.length_cons, List.length_nil]
    omega
def idsN (ns : List RN) : List (Int × Int) := ns.map fun n => ((n.id : Int), 1)
theorem rulIx {h : Hp} {A : Option Addr} {l c : Nat} {xs : List Rul} (r : RSl h A l 12 (xs.flatMap Rul.enc)) (hl : xs.length = l) {i : Nat} {x : Rul} (hx : xs[i]? = some x) :
    ∃ a, PV Tryz.prog (Instr.indexAt 22 (.slice A l c) (.int .i64 (i : Int))) (.pointer (some a)) ∧ Cl h a x.enc := by
  obtain ⟨a, ha, _, pv, cl⟩ := ixR (P := Tryz.prog) (T := 22) (E := 75) (enc := Rul.enc) (sz := 12) (xs := xs) (h := h) (A := A) (l := l) (c := c) (k := .i64) (i := i) (x := x) (fun _ => rfl) r hl undRules (by kernel_rfl) hx
  exact ⟨a, pv, cl⟩
theorem prs_l1 {h0 : Hp} (t : Tab h0) {ns : List RN} (hok : ∀ n ∈ ns, n.ok) (hnd : (ns.map (·.id)).Nodup) (hlen : ns.length ≤ 64) {A : Option Addr} {c b gm : Nat} (hgm : h0.size ≤ gm) (hbg : gm ≠ b) {K0 : ByteArray → Int → Hp → Prop} {K1 : Addr → Hp → Prop}
    (H : ∀ h', BdS h0 h' b (rulesT ns) → K1 ⟨b, 0, none⟩ h') (f : Nat) : ∀ (i : Nat) (h : Hp), ns.length - i < f → i ≤ ns.length → BdS h0 h b (rulesT (ns.take i)) → MapN h gm (idsN (ns.take i)) → RSl h A ns.length 12 ((ns.map RN.r).flatMap Rul.enc) → (∀ h', Ext h0 h' → RSl h' A ns.length 12 ((ns.map RN.r).flatMap Rul.enc)) →
      syntax_PrintRules_l1 ⟨b, 0, none⟩ (.map (some gm)) A ns.length c (ns.length : Int) K0 K1 f (i : Int) h := by
  induction f with
  | zero => intro i h hf; omega
  | succ f ih =>
    intro i h hf hi B M r rr
    unfold syntax_PrintRules_l1
    by_cases hlt : i < ns.length
    · refine br_t (by simp; omega) ?_
      obtain ⟨n, hn⟩ : ∃ n, ns[i]? = some n := ⟨_, List.getElem?_eq_getElem hlt⟩
      have hmem : n ∈ ns := List.mem_of_getElem? hn
      have hx : (ns.map RN.r)[i]? = some n.r := by rw [List.getElem?_map, hn]; rfl
      obtain ⟨a, pv, cl⟩ := rulIx (c := c) r (by simp) hx
      refine ⟨a, pv, _, _, _, _, _, _, _, _, _, _, _, _, ldS (vs := n.r.enc) cl (by kernel_rfl), ?_⟩
      refine newV (us := n.r.enc) rfl rfl (by kernel_rfl) rfl fun h1 e1 c1 b1 z1 => ?_
      refine ⟨_, _, _, _, _, _, _, _, _, _, _, _, ldS (vs := n.r.enc) c1 (by kernel_rfl), ?_⟩
      have B1 := B.ext e1
      refine Print_s (t.ext B1.e) n (hok n hmem) fun h2 e2 => ⟨_, _, rfl, br_f (by decide) ?_⟩
      have c2 := c1.ext e2
      have B2 := B1.ext e2
      have M2 := (M.ext e1).ext e2
      have htk : ns.take (i + 1) = ns.take i ++ [n] := by rw [List.take_add_one, hn]; rfl
      have hnot : ((n.id : Nat) : Int) ∉ (idsN (ns.take i)).map (·.1) := by
        intro hm
        unfold idsN at hm
        rw [List.map_map] at hm
        obtain ⟨m, hm1, hm2⟩ := List.mem_map.1 hm
        have hid : m.id = n.id := by
          have : ((m.id : Nat) : Int) = ((n.id : Nat) : Int) := hm2
          omega
        have hnd2 : ((ns.take (i + 1)).map (·.id)).Nodup := by
          rw [List.map_take]
          exact hnd.sublist (List.take_sublist _ _)
        rw [htk, List.map_append] at hnd2
        have := (List.nodup_append.1 hnd2).2.2 m.id (List.mem_map.2 ⟨m, hm1, rfl⟩) n.id (by simp)
        exact this hid
      have hz := look_not hnot
      have lk := look_map M2 ((n.id : Nat) : Int)
      rw [hz] at lk
      refine ⟨_, ld (c2.at_ 0 _ rfl) (by kernel_rfl), _, lk, br_f (by decide) ⟨_, ld (c2.at_ 0 _ rfl) (by kernel_rfl), _, lk, ?_⟩⟩
      have w1 : IntKind.i64.wrap ((0 : Int) + 1) = 1 := by decide
      show HU Tryz.prog (Instr.mapUpdate _ _ _ (.int .i64 (IntKind.i64.wrap ((0 : Int) + 1)))) h2 _
      rw [w1]
      refine updN M2 undMap undInt hnot 1 fun h3 m3 f3 z3 => ?_
      have B3 := B2.map M2 hgm f3
      have hrl := ruleT_len (hok n hmem)
      refine ⟨_, addS _ [10] (by omega) (by decide), ?_⟩
      have hbl : (rulesT (ns.take i)).length ≤ 200 * 64 := by
        have h1 := rulesT_len (ns.take i) fun x hx => hok x (List.mem_of_mem_take hx)
        have h2 : (ns.take i).length ≤ 64 := by rw [List.length_take]; omega
        omega
      refine wstr_s B3 (ruleT n ++ [10]) (by simp; omega) fun h4 B4 o4 => ⟨_, _, rfl, ?_⟩
      have w2 : IntKind.i64.wrap ((i : Int) + 1) = ((i + 1 : Nat) : Int) := by rw [wrap_in (by omega) (by omega)]; omega
      rw [w2]
      have eT : rulesT (ns.take i) ++ (ruleT n ++ [10]) = rulesT (ns.take (i + 1)) := by
        rw [htk]
        unfold rulesT
        rw [List.flatMap_append]
        simp
      rw [eT] at B4
      have eM : idsN (ns.take i) ++ [(((n.id : Nat) : Int), 1)] = idsN (ns.take (i + 1)) := by
        rw [htk]
        unfold idsN
        rw [List.map_append]
        rfl
      rw [eM] at m3
      exact ih (i + 1) h4 (by omega) (by omega) B4 (MapN.othB m3 o4 hbg) (rr h4 B4.e) rr
    · have hi' : i = ns.length := by omega
      refine br_f (by simp; omega) ?_
      rw [hi', List.take_length] at B
      exact H h B
theorem PrintRules_s {h : Hp} (t : Tab h) {ns : List RN} (hok : ∀ n ∈ ns, n.ok) (hnd : (ns.map (·.id)).Nodup) (hlen : ns.length ≤ 64) {A : Option Addr} {c : Nat} (r : RSl h A ns.length 12 ((ns.map RN.r).flatMap Rul.enc)) {K : Value → Hp → Prop}
    (H : ∀ h', Ext h h' → K (.tuple #[.string (bs (rulesT ns)), .int .i64 0]) h') : CallsH Tryz.prog 12 #[.slice A ns.length c] h K := by
  refine syntax_PrintRules_ok _ _ _ ?_
  unfold syntax_PrintRules
  refine br_f (by simp; omega) ?_
  refine newC_i (cs := bdC none none 0 0) fun h1 e1 c1 b1 z1 => ?_
  have B1 : BdS h h1 h.size [] := ⟨e1, Nat.le_refl _, none, none, 0, .inl rfl, b1, ByR.nil, Fresh.none _, (fun hk => by obtain ⟨a, ha, _⟩ := hk; cases ha)⟩
  refine makeN fun h2 e2 z2 m2 => ⟨_, rfl, ns.length + 1, ?_⟩
  refine prs_l1 t hok hnd hlen (by omega) (by omega) (fun h3 B3 => ?_) _ 0 h2 (by omega) (by omega) (B1.ext e2) m2 ((r.ext e1).ext e2) (fun h' e => r.ext e)
  refine bstr_s B3 fun h4 e4 => ⟨_, rfl, ?_⟩
  exact H h4 e4
/-! ### same -/
theorem neRr (r : Rul) : PV Tryz.prog (binOp .neq 75 r.val r.val) (.bool false) := by
  intro w
  unfold Rul.val
  rw [run_neq_struct, run_equalIn_struct w 9999 75 _ _ (by kernel_rfl) (by kernel_rfl)]
  simp [go_sem]
theorem same_s {h : Hp} {A B : Option Addr} {c d : Nat} {l : List Rul} (ra : RSl h A l.length 12 (l.flatMap Rul.enc)) (rb : RSl h B l.length 12 (l.flatMap Rul.enc)) (hl : l.length ≤ 1000000) {K : Value → Hp → Prop} (H : K (.bool true) h) :
    CallsH Tryz.prog 15 #[.slice A l.length c, .slice B l.length d] h K := by
  refine quintettop_same_ok _ _ _ _ _ _ ?_
  unfold quintettop_same
  refine br_f (by simp) ⟨l.length + 1, ?_⟩
  suffices hs : ∀ (f i : Nat), l.length - i < f → i ≤ l.length → quintettop_same_l1 A l.length c B l.length d (fun b h => K (.bool b) h) (fun h => K (.bool true) h) f (i : Int) h from hs _ 0 (by omega) (by omega)
  intro f
  induction f with
  | zero => intro i hf; omega
  | succ f ih =>
    intro i hf hi
    unfold quintettop_same_l1
    by_cases hlt : i < l.length
    · refine br_t (by simp; omega) ?_
      obtain ⟨x, hx⟩ : ∃ n, l[i]? = some n := ⟨_, List.getElem?_eq_getElem hlt⟩
      obtain ⟨a, pva, cla⟩ := rulIx (c := c) ra rfl hx
      obtain ⟨b, pvb, clb⟩ := rulIx (c := d) rb rfl hx
      refine ⟨a, pva, _, _, _, _, _, _, _, _, _, _, _, _, ldS (vs := x.enc) cla (by kernel_rfl), b, pvb, _, _, _, _, _, _, _, _, _, _, _, _, ldS (vs := x.enc) clb (by kernel_rfl), _, neRr x, br_f rfl ?_⟩
      have w2 : IntKind.i64.wrap ((i : Int) + 1) = ((i + 1 : Nat) : Int) := by rw [wrap_in (by omega) (by omega)]; omega
      rw [w2]
      exact ih (i + 1) (by omega) (by omega)
    · exact br_f (by simp; omega) H
end Go.Proofs.YtfdpccbajaiepaaGreatDoor.Pr

/- What is printed of rules is lexed, and read as those rules. -/
namespace Go.Proofs.YtfdpccbajaiepaaGreatDoor.Lx
open Go Go.RowKit Go.Proofs.YtfdpccbajaiepaaGreatDoor.Sx Go.Proofs.YtfdpccbajaiepaaGreatDoor.Pr Go.Proofs.YtfdpccbajaiepaaGreatDoor.Fs
set_option linter.unusedVariables false
set_option linter.unusedSimpArgs false
theorem firstBad_none : ∀ (l : List Int) (i : Int), firstBad l i = none → ∀ p ∈ l, p = 0
  | [], _, _ => by simp
  | e :: l, i, h => by
    unfold firstBad at h
    split at h
    · cases h
    · rename_i he
      intro p hp
      rcases List.mem_cons.1 hp with rfl | hp
      · omega
      · exact firstBad_none l _ h p hp
theorem firstBad_some : ∀ (l : List Int) (i : Int) (p : Int × Int), firstBad l i = some p → p.1 ≠ 0
  | [], _, _, h => by cases h
  | e :: l, i, p, h => by
    unfold firstBad at h
    split at h
    · rename_i he; cases h; exact he
    · exact firstBad_some l _ p h
theorem check_zero {x : Rul} (h : x.check.1 = 0) : 1 ≤ x.id ∧ x.id ≤ 999999 ∧ prefixCheck x.sA x.sL = 0 ∧ prefixCheck x.dA x.dL = 0 ∧ spanCheck x.s0 x.s1 = 0 ∧ spanCheck x.d0 x.d1 = 0 ∧ maskCheck x.pV x.pC = 0 := by
  unfold Rul.check at h
  split at h
  · simp at h
  · rename_i hid
    unfold Rul.check2 at h
    cases hf : firstBad x.parts 0 with
    | some p => rw [hf] at h; exact absurd h (firstBad_some _ _ _ hf)
    | none =>
      have hz := firstBad_none _ _ hf
      unfold Rul.parts at hz
      exact ⟨by omega, by omega, hz _ (by simp), hz _ (by simp), hz _ (by simp), hz _ (by simp), hz _ (by simp)⟩
theorem pref0 {a : Nat} (ha : a < 4294967296) (h : prefixCheck (a : Int) 0 = 0) : a = 0 := by
  unfold prefixCheck at h
  rw [if_neg (by omega), if_neg (by omega)] at h
  split at h
  · cases h
  · rename_i hn
    have e : bAndNot .u32 (a : Int) (careV 0) = (a : Int) := by
      have hc : careV 0 = 0 := by decide
      rw [hc]
      unfold bAndNot
      have e1 : BitVec.ofInt IntKind.u32.bits (a : Int) = BitVec.ofNat 32 a := by rw [BitVec.ofInt_natCast]; rfl
      have e2 : (BitVec.ofInt IntKind.u32.bits (a : Int) &&& ~~~ BitVec.ofInt IntKind.u32.bits 0).toNat = a := by
        rw [e1]
        show (BitVec.ofNat 32 a &&& ~~~ BitVec.ofInt 32 0).toNat = a
        have : (~~~ BitVec.ofInt 32 0 : BitVec 32) = BitVec.allOnes 32 := by decide
        rw [this, BitVec.and_allOnes, BitVec.toNat_ofNat, Nat.mod_eq_of_lt (by omega)]
      rw [e2]
      simp only [IntKind.wrap, IntKind.bits, IntKind.signed]
      simp
      omega
    rw [e] at hn
    simp at hn
    exact hn
theorem mask0 {v : Nat} (hv : v < 256) (h : maskCheck (v : Int) 0 = 0) : v = 0 := by
  unfold maskCheck at h
  split at h
  · cases h
  · rename_i hn
    have e : bAndNot .u8 (v : Int) 0 = (v : Int) := by
      unfold bAndNot
      have e1 : BitVec.ofInt IntKind.u8.bits (v : Int) = BitVec.ofNat 8 v := by rw [BitVec.ofInt_natCast]; rfl
      have e2 : (BitVec.ofInt IntKind.u8.bits (v : Int) &&& ~~~ BitVec.ofInt IntKind.u8.bits 0).toNat = v := by
        rw [e1]
        show (BitVec.ofNat 8 v &&& ~~~ BitVec.ofInt 8 0).toNat = v
        have : (~~~ BitVec.ofInt 8 0 : BitVec 8) = BitVec.allOnes 8 := by decide
        rw [this, BitVec.and_allOnes, BitVec.toNat_ofNat, Nat.mod_eq_of_lt (by omega)]
      rw [e2]
      exact u8n v hv
    rw [e] at hn
    simp at hn
    exact hn
theorem pref_hd (a l : Nat) : ∃ y, prefT a l = 32 :: y := by
  unfold prefT
  split
  · exact ⟨_, rfl⟩
  · rw [addrT_eq]; exact ⟨_, rfl⟩
theorem span_hd (a l : Nat) : ∃ y, spanT a l = 32 :: y := by
  unfold spanT
  split
  · exact ⟨_, rfl⟩
  · exact ⟨_, rfl⟩
theorem mask_hd (a l : Nat) : ∃ y, maskT a l = 32 :: y := by
  unfold maskT
  split
  · exact ⟨_, rfl⟩
  · exact ⟨_, rfl⟩
theorem sep32 {x z : List UInt8} (h : ∃ y, x = 32 :: y) : sepB (x ++ z) := by
  obtain ⟨y, rfl⟩ := h
  intro c hc
  simp only [List.cons_append, List.head?_cons, Option.some.injEq] at hc
  exact .inl hc.symm
theorem sep10 {z : List UInt8} : sepB (10 :: z) := by
  intro c hc
  simp only [List.head?_cons, Option.some.injEq] at hc
  exact .inr hc.symm
/-- The tokens of a rule, but its line's end. -/
structure RuleTs (n : RN) (pre : List TokM) : Prop where
  hd : ∃ t l, pre = t :: l ∧ t.kind ≠ 4
  nk : ∀ x ∈ pre, x.kind ≠ 4
  rd : ∀ (t5 : TokM) (ts : List TokM), t5.kind = 4 → ∃ bs, ruleR (pre ++ t5 :: ts) = .ok ((n.r, bs), t5 :: ts)
theorem lex_rule {n : RN} (k : n.ok) {r : List UInt8} {line col : Nat} {P : List TokM → Prop} (hm : lineLen r ≤ 200)
    (H : Lexes r (line + 1) 0 fun ts => ∀ pre t5, RuleTs n pre → t5.kind = 4 → P (pre ++ t5 :: ts)) : Lexes (ruleT n ++ 10 :: r) line col P := by
  obtain ⟨z1, z2, z3, z4, z5, z6, z7⟩ := check_zero k.chk
  have hid := k.id
  have e : ruleT n ++ 10 :: r = dec n.id ++ ((32 :: actT n.act) ++ (prefT n.sA n.sL ++ (prefT n.dA n.dL ++ (spanT n.s0 n.s1 ++ (spanT n.d0 n.d1 ++ (maskT n.pV n.pC ++ (10 :: r))))))) := by
    unfold ruleT
    simp only [List.append_assoc, List.cons_append, List.nil_append]
  rw [e]
  refine printsK_num k.id (mx := 4294967295) (by omega) _ _ _ _ (sep32 ⟨_, rfl⟩) fun _ => ?_
  refine printsK_act k.a0 k.a1 _ _ _ _ (sep32 (pref_hd _ _)) fun _ => ?_
  refine printsK_pref k.sA k.sL (fun h0 => pref0 k.sA (by have : prefixCheck ((n.sA : Nat) : Int) ((n.sL : Nat) : Int) = 0 := z3; rwa [h0] at this)) _ _ _ _ (sep32 (pref_hd _ _)) fun _ => ?_
  refine printsK_pref k.dA k.dL (fun h0 => pref0 k.dA (by have : prefixCheck ((n.dA : Nat) : Int) ((n.dL : Nat) : Int) = 0 := z4; rwa [h0] at this)) _ _ _ _ (sep32 (span_hd _ _)) fun _ => ?_
  refine printsK_span k.s0 k.s1 _ _ _ _ (sep32 (span_hd _ _)) fun _ => ?_
  refine printsK_span k.d0 k.d1 _ _ _ _ (sep32 (mask_hd _ _)) fun _ => ?_
  refine printsK_mask k.pV k.pC (fun h0 => mask0 k.pV (by have : maskCheck ((n.pV : Nat) : Int) ((n.pC : Nat) : Int) = 0 := z7; rwa [h0] at this)) _ _ _ _ sep10 fun _ => ?_
  refine lex_end hm (H.mono ?_)
  intro ts h t5 h5 p7 q7 p6 q6 p5 q5 p4 q4 p3 q3 p2 q2 p1 q1
  have := h (p1 ++ (p2 ++ (p3 ++ (p4 ++ (p5 ++ (p6 ++ p7)))))) t5 ⟨?_, ?_, ?_⟩ h5
  · simpa using this
  · obtain ⟨t, l, e1, _⟩ := q1.hd
    exact ⟨t, l ++ (p2 ++ (p3 ++ (p4 ++ (p5 ++ (p6 ++ p7))))), by rw [e1]; rfl, q1.nk t (by rw [e1]; simp)⟩
  · intro x hx
    simp only [List.mem_append] at hx
    rcases hx with hx | hx | hx | hx | hx | hx | hx
    · exact q1.nk x hx
    · exact q2.nk x hx
    · exact q3.nk x hx
    · exact q4.nk x hx
    · exact q5.nk x hx
    · exact q6.nk x hx
    · exact q7.nk x hx
  · intro t5 ts h5
    have s8 : Sep (t5 :: ts) := ⟨t5, ts, rfl, sgn_kind (by omega) _, sgn_kind (by omega) _⟩
    simp only [List.append_assoc]
    unfold ruleR
    rw [q1.rd _ (q2.sep _)]
    simp only [Lx.thenR]
    rw [q2.rd _ (q3.sep _)]
    simp only [Lx.thenR]
    rw [q3.rd _ (q4.sep _)]
    simp only [Lx.thenR]
    rw [q4.rd _ (q5.sep _)]
    simp only [Lx.thenR]
    rw [q5.rd _ (q6.sep _)]
    simp only [Lx.thenR]
    rw [q6.rd _ (q7.sep _)]
    simp only [Lx.thenR]
    rw [q7.rd _ s8]
    simp only [Lx.thenR]
    rw [i64w n.id k.id]
    exact ⟨_, rfl⟩
def cnt (ts : List TokM) : Nat := (ts.filter fun t => t.kind == 4).length
theorem cnt_app (a b : List TokM) : cnt (a ++ b) = cnt a + cnt b := by unfold cnt; rw [List.filter_append, List.length_append]
theorem cnt_none {a : List TokM} (h : ∀ x ∈ a, x.kind ≠ 4) : cnt a = 0 := by
  unfold cnt
  rw [List.filter_eq_nil_iff.2 (fun x hx => by simpa using h x hx)]
  rfl
structure RulesTs (ns : List RN) (ts : List TokM) : Prop where
  c : cnt ts = ns.length
  rd : ∀ (out : List Rul) (f : Nat), ts.length < f → out.length + ns.length ≤ 64 → (∀ n ∈ ns, ((n.id : Nat) : Int) ∉ (noteL out).map (·.1)) → (ns.map (·.id)).Nodup → linesR lineR f out ts = .ok (out ++ ns.map RN.r)
theorem decK (u : Nat) : ∀ c ∈ dec u, c.toNat ≠ 10 := fun c hc => (kind_not (by rw [dec_kind u c hc]; omega)).2.2
theorem addrK (a : Nat) : ∀ c ∈ addrT a, c.toNat ≠ 10 := by
  intro c hc
  rw [addrT_eq] at hc
  unfold addrT0 at hc
  simp only [List.mem_append, List.mem_cons] at hc
  rcases hc with rfl | hc | rfl | hc | rfl | hc | rfl | hc
  · decide
  · exact decK _ c hc
  · decide
  · exact decK _ c hc
  · decide
  · exact decK _ c hc
  · decide
  · exact decK _ c hc
end Go.Proofs.YtfdpccbajaiepaaGreatDoor.Lx

/- Rules printed, lexed, read: the same; what is read may be. -/
namespace Go.Proofs.YtfdpccbajaiepaaGreatDoor.Lx
open Go Go.RowKit Go.Proofs.YtfdpccbajaiepaaGreatDoor.Sx Go.Proofs.YtfdpccbajaiepaaGreatDoor.Pr Go.Proofs.YtfdpccbajaiepaaGreatDoor.Fs
set_option linter.unusedVariables false
set_option linter.unusedSimpArgs false
def noNl (l : List UInt8) : Prop := ∀ c ∈ l, c.toNat ≠ 10
instance (l : List UInt8) : Decidable (noNl l) := inferInstanceAs (Decidable (∀ c ∈ l, c.toNat ≠ 10))
theorem noNl.app {a b : List UInt8} (ha : noNl a) (hb : noNl b) : noNl (a ++ b) := fun c hc => (List.mem_append.1 hc).elim (ha c) (hb c)
theorem noNl_pref (a l : Nat) : noNl (prefT a l) := by
  unfold prefT
  split
  · decide
  · refine noNl.app (addrK a) ?_
    split
    · exact noNl.app (by decide) (decK l)
    · intro c hc; cases hc
theorem noNl_span (a l : Nat) : noNl (spanT a l) := by
  unfold spanT
  split
  · decide
  · refine noNl.app (noNl.app (by decide) (decK a)) ?_
    split
    · exact noNl.app (by decide) (decK l)
    · intro c hc; cases hc
theorem noNl_mask (a l : Nat) : noNl (maskT a l) := by
  unfold maskT
  split
  · decide
  · refine noNl.app (noNl.app (by decide) (decK a)) ?_
    split
    · exact noNl.app (by decide) (decK l)
    · intro c hc; cases hc
theorem noNl_act (a : Nat) : noNl (actT a) := fun c hc => (kind_not (by rw [(actT_facts a).2.2 c hc]; omega)).2.2
theorem noNl_rule (n : RN) : noNl (ruleT n) := by
  unfold ruleT
  have h0 : noNl (dec n.id) := decK _
  exact (((((h0.app (noNl.app (by decide) (noNl_act _))).app (noNl_pref _ _)).app (noNl_pref _ _)).app (noNl_span _ _)).app (noNl_span _ _)).app (noNl_mask _ _)
theorem lineLen_app (l r : List UInt8) (hl : noNl l) : lineLen (l ++ 10 :: r) = l.length := by
  unfold lineLen
  induction l with
  | nil => rfl
  | cons c l ih =>
    rw [List.cons_append, List.takeWhile_cons]
    have : (c.toNat != 10) = true := by simpa using hl c (by simp)
    rw [this]
    simp only [if_true, List.length_cons]
    rw [ih fun c hc => hl c (by simp [hc])]
theorem rulesT_cons (n : RN) (ns : List RN) : rulesT (n :: ns) = ruleT n ++ 10 :: rulesT ns := by
  unfold rulesT
  rw [List.flatMap_cons, List.append_assoc]
  rfl
theorem rulesT_line (ns : List RN) (hok : ∀ n ∈ ns, n.ok) : lineLen (rulesT ns) ≤ 200 := by
  cases ns with
  | nil => decide
  | cons n ns =>
    rw [rulesT_cons, lineLen_app _ _ (noNl_rule n)]
    have := ruleT_len (hok n (by simp))
    omega
theorem rules_lex : ∀ (ns : List RN) (line : Nat), (∀ n ∈ ns, n.ok) → Lexes (rulesT ns) line 0 (RulesTs ns)
  | [], line, _ => lex_stop ⟨rfl, fun out f hf _ _ _ => by
      cases f with
      | zero => simp at hf
      | succ f => simp [linesR]⟩
  | n :: ns, line, hok => by
    rw [rulesT_cons]
    refine lex_rule (hok n (by simp)) (rulesT_line ns fun x hx => hok x (by simp [hx])) ((rules_lex ns (line + 1) fun x hx => hok x (by simp [hx])).mono ?_)
    intro ts h pre t5 hp h5
    obtain ⟨t, l, rfl, hk⟩ := hp.hd
    refine ⟨?_, fun out f hf hlen hnot hnd => ?_⟩
    · rw [cnt_app, cnt_none hp.nk]
      have : cnt (t5 :: ts) = cnt ts + 1 := by
        unfold cnt
        rw [List.filter_cons_of_pos (by simp [h5])]
        rfl
      rw [this, h.c, List.length_cons]
      omega
    · cases f with
      | zero => simp at hf
      | succ f =>
        obtain ⟨bs, hR⟩ := hp.rd t5 ts h5
        rw [List.cons_append] at hR ⊢
        unfold linesR
        rw [if_neg hk]
        have hL : lineR out (t :: (l ++ t5 :: ts)) = .ok (out ++ [n.r], ts) := by
          unfold lineR
          rw [hR]
          simp only [Lx.thenR]
          have hE : endR (t5 :: ts) = .ok ((), ts) := by simp [endR, h5]
          rw [hE]
          simp only [Lx.thenR]
          have h64 : ¬ out.length = 64 := by simp at hlen; omega
          rw [if_neg h64]
          have hM : rightM n.r bs = none := by unfold rightM; rw [if_pos (hok n (by simp)).chk]
          rw [hM]
          simp only
          rw [if_neg (show ¬ n.r.id ∈ List.map (fun x => x.fst) (noteL out) from hnot n (by simp))]
        rw [hL]
        simp only
        have hnd' := List.nodup_cons.1 (show (n.id :: ns.map (·.id)).Nodup from hnd)
        have := h.rd (out ++ [n.r]) f (by simp at hf; omega) (by simp at hlen ⊢; omega) (fun m hm hmem => ?_) hnd'.2
        · rw [this]
          simp
        · unfold noteL at hmem
          rw [List.map_append, List.map_append, List.mem_append] at hmem
          rcases hmem with hmem | hmem
          · exact hnot m (by simp [hm]) hmem
          · simp only [List.map_cons, List.map_nil, List.mem_singleton] at hmem
            have : ((m.id : Nat) : Int) = ((n.id : Nat) : Int) := hmem
            exact hnd'.1 (List.mem_map.2 ⟨m, hm, by omega⟩)
/-- What is printed of rules is read as the same. -/
theorem rules_again {ns : List RN} (hok : ∀ n ∈ ns, n.ok) (hnd : (ns.map (·.id)).Nodup) (hlen : ns.length ≤ 64) : ∃ ts, lexM (rulesT ns) = some (.ok ts) ∧ rulesR ts = .ok (ns.map RN.r) ∧ cnt ts = ns.length := by
  have hl := rulesT_len ns hok
  obtain ⟨ts, h1, h2⟩ := (rules_lex ns 1 hok).read (by omega) (rulesT_line ns hok)
  refine ⟨ts, h1, ?_, h2.c⟩
  have := h2.rd [] (ts.length + 1) (by omega) (by simpa using hlen) (fun n hn h => by cases h) hnd
  unfold rulesR
  rw [this]
  rfl
/-! ### what is read may be -/
theorem u32_rng (x y : Int) : 0 ≤ bOr .u32 x y ∧ bOr .u32 x y < 4294967296 := by
  unfold bOr
  simp only [IntKind.wrap, IntKind.bits, IntKind.signed]
  simp
  omega
theorem u16_rng (x : Int) : 0 ≤ IntKind.u16.wrap x ∧ IntKind.u16.wrap x < 65536 := by
  simp only [IntKind.wrap, IntKind.bits, IntKind.signed]
  simp
  omega
theorem u8_rng (x : Int) : 0 ≤ IntKind.u8.wrap x ∧ IntKind.u8.wrap x < 256 := by
  simp only [IntKind.wrap, IntKind.bits, IntKind.signed]
  simp
  omega
theorem addrL_rng (j : Nat) : ∀ {v x : Int} {r r2 : List TokM}, addrL j v r = .ok (x, r2) → (0 ≤ v ∧ v < 4294967296 ∨ 0 < j) → 0 ≤ x ∧ x < 4294967296 := by
  induction j with
  | zero =>
    intro v x r r2 h hv
    unfold addrL at h
    cases h
    rcases hv with hv | hv
    · exact hv
    · omega
  | succ j ih =>
    intro v x r r2 h _
    cases r with
    | nil => unfold addrL at h; cases h
    | cons t r =>
      unfold addrL at h
      split at h
      · split at h
        · cases h
        · exact ih h (.inl (u32_rng _ _))
      · cases h
theorem addrR_rng {x : Int} {r r2 : List TokM} (h : addrR r = .ok (x, r2)) : 0 ≤ x ∧ x < 4294967296 := by
  unfold addrR at h
  split at h
  · cases h
  · exact addrL_rng 3 h (.inr (by omega))
theorem prefR_rng {v : Int × Int} {r r2 : List TokM} (h : prefR r = .ok (v, r2)) : 0 ≤ v.1 ∧ v.1 < 4294967296 := by
  cases r with
  | nil => cases h
  | cons t r =>
    unfold prefR at h
    simp only at h
    split at h
    · cases h; exact ⟨by decide, by decide⟩
    · split at h
      · cases h
      · cases h
      · rename_i a t2 r3 hR
        have h1 := addrR_rng hR
        split at h
        · split at h
          · cases h
          · cases h; exact h1
        · cases h; exact h1
theorem spanR_rng {v : Int × Int} {r r2 : List TokM} (h : spanR r = .ok (v, r2)) : (0 ≤ v.1 ∧ v.1 < 65536) ∧ (0 ≤ v.2 ∧ v.2 < 65536) := by
  cases r with
  | nil => cases h
  | cons t r =>
    unfold spanR at h
    simp only at h
    split at h
    · cases h; exact ⟨⟨by decide, by decide⟩, by decide, by decide⟩
    · split at h
      · cases h
      · cases h
      · split at h
        · split at h
          · cases h
          · cases h; exact ⟨u16_rng _, u16_rng _⟩
        · cases h; exact ⟨u16_rng _, u16_rng _⟩
theorem maskR_rng {v : Int × Int} {r r2 : List TokM} (h : maskR r = .ok (v, r2)) : (0 ≤ v.1 ∧ v.1 < 256) ∧ (0 ≤ v.2 ∧ v.2 < 256) := by
  cases r with
  | nil => cases h
  | cons t r =>
    unfold maskR at h
    simp only at h
    split at h
    · cases h; exact ⟨⟨by decide, by decide⟩, by decide, by decide⟩
    · split at h
      · cases h
      · cases h
      · split at h
        · split at h
          · cases h
          · cases h; exact ⟨u8_rng _, u8_rng _⟩
        · cases h; exact ⟨u8_rng _, show (0 : Int) ≤ 255 by decide, show (255 : Int) < 256 by decide⟩
theorem actR_rng {v : Int} {r r2 : List TokM} (h : actR r = .ok (v, r2)) : 1 ≤ v ∧ v ≤ 4 := by
  cases r with
  | nil => cases h
  | cons t r =>
    unfold actR at h
    simp only at h
    repeat' split at h
    all_goals (cases h)
    all_goals decide
theorem prefixCheck_len' {a l : Int} (h : prefixCheck a l = 0) : 0 ≤ l ∧ l ≤ 32 := prefixCheck_len h
theorem rule_rn {r r7 : List TokM} {p : Rul × List TokM} (h : ruleR r = .ok (p, r7)) (hc : p.1.check.1 = 0) : ∃ n : RN, p.1 = n.r ∧ n.ok := by
  unfold ruleR at h
  obtain ⟨id, r1, a1, h⟩ := then_ok h
  obtain ⟨ac, r2, a2, h⟩ := then_ok h
  obtain ⟨s, r3, a3, h⟩ := then_ok h
  obtain ⟨d, r4, a4, h⟩ := then_ok h
  obtain ⟨sp, r5, a5, h⟩ := then_ok h
  obtain ⟨dp, r6, a6, h⟩ := then_ok h
  obtain ⟨m, r8, a7, h⟩ := then_ok h
  cases h
  have b2 := actR_rng a2; have b3 := prefR_rng a3; have b4 := prefR_rng a4; have b5 := spanR_rng a5; have b6 := spanR_rng a6; have b7 := maskR_rng a7
  obtain ⟨z1, z2, z3, z4, z5, z6, z7⟩ := check_zero hc
  have l3 := prefixCheck_len z3
  have l4 := prefixCheck_len z4
  simp only at z1 z2 l3 l4
  obtain ⟨id', e1⟩ := Int.eq_ofNat_of_zero_le (show 0 ≤ IntKind.i64.wrap id by omega)
  obtain ⟨ac', e2⟩ := Int.eq_ofNat_of_zero_le (show 0 ≤ ac by omega)
  obtain ⟨s1, e3⟩ := Int.eq_ofNat_of_zero_le b3.1
  obtain ⟨s2, e4⟩ := Int.eq_ofNat_of_zero_le l3.1
  obtain ⟨d1, e5⟩ := Int.eq_ofNat_of_zero_le b4.1
  obtain ⟨d2, e6⟩ := Int.eq_ofNat_of_zero_le l4.1
  obtain ⟨p1, e7⟩ := Int.eq_ofNat_of_zero_le b5.1.1
  obtain ⟨p2, e8⟩ := Int.eq_ofNat_of_zero_le b5.2.1
  obtain ⟨q1, e9⟩ := Int.eq_ofNat_of_zero_le b6.1.1
  obtain ⟨q2, e10⟩ := Int.eq_ofNat_of_zero_le b6.2.1
  obtain ⟨m1, e11⟩ := Int.eq_ofNat_of_zero_le b7.1.1
  obtain ⟨m2, e12⟩ := Int.eq_ofNat_of_zero_le b7.2.1
  have e : (⟨IntKind.i64.wrap id, s.1, s.2, d.1, d.2, sp.1, sp.2, dp.1, dp.2, m.1, m.2, ac⟩ : Rul) = RN.r ⟨id', s1, s2, d1, d2, p1, p2, q1, q2, m1, m2, ac'⟩ := by
    rw [e1, e2, e3, e4, e5, e6, e7, e8, e9, e10, e11, e12]
    rfl
  refine ⟨⟨id', s1, s2, d1, d2, p1, p2, q1, q2, m1, m2, ac'⟩, e, ?_⟩
  have hc' := hc
  simp only at hc'
  rw [e] at hc'
  exact ⟨by show id' < _; omega, by show s1 < _; omega, by show s2 ≤ _; omega, by show d1 < _; omega, by show d2 ≤ _; omega, by show p1 < _; omega, by show p2 < _; omega, by show q1 < _; omega, by show q2 < _; omega, by show m1 < _; omega, by show m2 < _; omega, by show 1 ≤ ac'; omega, by show ac' ≤ 4; omega, hc'⟩
/-- Rules that may be, as a list. -/
def MayL (l : List Rul) : Prop := ∃ ns : List RN, l = ns.map RN.r ∧ (∀ n ∈ ns, n.ok) ∧ (ns.map (·.id)).Nodup ∧ ns.length ≤ 64
theorem line_may {out out' : List Rul} {r r' : List TokM} (h : lineR out r = .ok (out', r')) (hm : MayL out) : MayL out' := by
  unfold lineR at h
  obtain ⟨p, r1, a1, h⟩ := then_ok h
  obtain ⟨u, r2, a2, h⟩ := then_ok h
  split at h
  · cases h
  · rename_i h64
    split at h
    · cases h
    · rename_i hM
      split at h
      · cases h
      · rename_i hin
        cases h
        have hc : p.1.check.1 = 0 := by
          unfold rightM at hM
          split at hM
          · assumption
          · cases hM
        obtain ⟨n, e, k⟩ := rule_rn a1 hc
        obtain ⟨ns, rfl, hok, hnd, hlen⟩ := hm
        refine ⟨ns ++ [n], by simp [e], ?_, ?_, ?_⟩
        · intro x hx
          rcases List.mem_append.1 hx with hx | hx
          · exact hok x hx
          · simp only [List.mem_singleton] at hx; subst hx; exact k
        · rw [List.map_append]
          refine List.nodup_append.2 ⟨hnd, by simp, ?_⟩
          rintro a ha b hb rfl
          simp only [List.map_cons, List.map_nil, List.mem_singleton] at hb
          obtain ⟨m, hm1, hm2⟩ := List.mem_map.1 ha
          apply hin
          unfold noteL
          rw [List.map_map]
          refine List.mem_map.2 ⟨m.r, List.mem_map.2 ⟨m, hm1, rfl⟩, ?_⟩
          show ((m.id : Nat) : Int) = p.1.id
          rw [e]
          show ((m.id : Nat) : Int) = ((n.id : Nat) : Int)
          omega
        · simp at h64 ⊢
          omega
theorem lines_may (f : Nat) : ∀ (out : List Rul) (r : List TokM) (l : List Rul), linesR lineR f out r = .ok l → MayL out → MayL l := by
  induction f with
  | zero => intro out r l h hm; cases h; exact hm
  | succ f ih =>
    intro out r l h hm
    cases r with
    | nil => cases h; exact hm
    | cons t r =>
      unfold linesR at h
      split at h
      · exact ih _ _ _ h hm
      · cases hL : lineR out (t :: r) with
        | error e => rw [hL] at h; cases h
        | ok p => rw [hL] at h; exact ih _ _ _ h (line_may hL hm)
theorem rules_may {ts : List TokM} {l : List Rul} (h : rulesR ts = .ok l) : MayL l := lines_may _ _ _ _ h ⟨[], rfl, by simp, by simp, by simp⟩
end Go.Proofs.YtfdpccbajaiepaaGreatDoor.Lx

/- Faults have their place. -/
namespace Go.Proofs.YtfdpccbajaiepaaGreatDoor.Lx
open Go Go.RowKit Go.Proofs.YtfdpccbajaiepaaGreatDoor.Sx Go.Proofs.YtfdpccbajaiepaaGreatDoor.Pr Go.Proofs.YtfdpccbajaiepaaGreatDoor.Fs
set_option linter.unusedVariables false
set_option linter.unusedSimpArgs false
/-- A fault with a place. -/
structure FOk (f : Flt) : Prop where
  c0 : f.code ≠ 0
  c2 : f.code ≠ 2
  l : 1 ≤ f.line
  c : 1 ≤ f.col
def TOk (r : List TokM) : Prop := ∀ t ∈ r, 1 ≤ t.line ∧ 1 ≤ t.col
theorem TOk.tail {t : TokM} {r : List TokM} (h : TOk (t :: r)) : TOk r := fun x hx => h x (by simp [hx])
theorem fok {t : TokM} {r : List TokM} (h : TOk (t :: r)) (c : Int) (h0 : c ≠ 0) (h2 : c ≠ 2) : FOk ⟨c, t.line, t.col⟩ := ⟨h0, h2, (h t (by simp)).1, (h t (by simp)).2⟩
theorem fokN {c l k : Int} (h0 : c ≠ 0) (h2 : c ≠ 2) (hl : 1 ≤ l) (hk : 1 ≤ k) : FOk ⟨c, l, k⟩ := ⟨h0, h2, hl, hk⟩
structure GT (r : List TokM) : Prop where
  g : Good r
  n : r ≠ []
  t : TOk r
def Nice {α : Type} (R : ReR α) : Prop := match R with
  | .error f => FOk f
  | .ok (_, r) => GT r
theorem GT.sub {t : TokM} {r : List TokM} (h : GT (t :: r)) (hk : t.kind ≠ 4) : GT r := ⟨(h.g.tail hk).1, (h.g.tail hk).2, h.t.tail⟩
theorem nice_num {mx : Int} {r : List TokM} (h : GT r) : Nice (numR mx r) := by
  cases r with
  | nil => exact absurd rfl h.n
  | cons t r =>
    rw [numR_cons]
    cases hR : numM t mx with
    | error f =>
      unfold numM at hR
      split at hR
      · split at hR
        · cases hR; exact fok h.t 101 (by decide) (by decide)
        · cases hR
      · cases hR; exact fok h.t 100 (by decide) (by decide)
    | ok v => exact h.sub (numM_k hR)
theorem nice_then {α β : Type} {R : ReR α} {f : α → List TokM → ReR β} (hR : Nice R) (hf : ∀ v r, GT r → Nice (f v r)) : Nice (Lx.thenR R f) := by
  cases R with
  | error e => exact hR
  | ok p => exact hf p.1 p.2 hR
theorem nice_addrL (j : Nat) : ∀ (v : Int) (r : List TokM), GT r → Nice (addrL j v r) := by
  induction j with
  | zero => intro v r h; exact h
  | succ j ih =>
    intro v r h
    cases r with
    | nil => exact absurd rfl h.n
    | cons t r =>
      unfold addrL
      by_cases hs : isSign t [46] = true
      · rw [if_pos hs]
        have h1 := nice_num (mx := 255) (h.sub (isSign_k hs))
        cases hR : numR 255 r with
        | error f => rw [hR] at h1; exact h1
        | ok p => rw [hR] at h1; exact ih _ _ h1
      · rw [if_neg hs]
        exact fok h.t 100 (by decide) (by decide)
theorem nice_addr {r : List TokM} (h : GT r) : Nice (addrR r) := by
  unfold addrR
  have h1 := nice_num (mx := 255) h
  cases hR : numR 255 r with
  | error f => rw [hR] at h1; exact h1
  | ok p => rw [hR] at h1; exact nice_addrL 3 _ _ h1
theorem nice_pref {r : List TokM} (h : GT r) : Nice (prefR r) := by
  cases r with
  | nil => exact absurd rfl h.n
  | cons t r =>
    unfold prefR
    by_cases hs : isSign t [42] = true
    · simp only [hs, if_true]
      exact h.sub (isSign_k hs)
    · simp only [hs, if_false]
      have h1 := nice_addr h
      cases hR : addrR (t :: r) with
      | error f => rw [hR] at h1; exact h1
      | ok p =>
        obtain ⟨a, r2⟩ := p
        rw [hR] at h1
        have h1 : GT r2 := h1
        cases r2 with
        | nil => exact absurd rfl h1.n
        | cons t2 r3 =>
          by_cases hs2 : isSign t2 [47] = true
          · simp only [hs2, if_true]
            have h2 := nice_num (mx := 32) (h1.sub (isSign_k hs2))
            cases hN : numR 32 r3 with
            | error f => rw [hN] at h2; exact h2
            | ok p => rw [hN] at h2; exact h2
          · simp only [hs2, if_false]
            exact h1
theorem nice_span {r : List TokM} (h : GT r) : Nice (spanR r) := by
  cases r with
  | nil => exact absurd rfl h.n
  | cons t r =>
    unfold spanR
    by_cases hs : isSign t [42] = true
    · simp only [hs, if_true]
      exact h.sub (isSign_k hs)
    · simp only [hs, if_false]
      have h1 := nice_num (mx := 65535) h
      cases hR : numR 65535 (t :: r) with
      | error f => rw [hR] at h1; exact h1
      | ok p =>
        obtain ⟨a, r2⟩ := p
        rw [hR] at h1
        have h1 : GT r2 := h1
        cases r2 with
        | nil => exact absurd rfl h1.n
        | cons t2 r3 =>
          by_cases hs2 : isSign t2 [58] = true
          · simp only [hs2, if_true]
            have h2 := nice_num (mx := 65535) (h1.sub (isSign_k hs2))
            cases hN : numR 65535 r3 with
            | error f => rw [hN] at h2; exact h2
            | ok p => rw [hN] at h2; exact h2
          · simp only [hs2, if_false]
            exact h1
theorem nice_mask {r : List TokM} (h : GT r) : Nice (maskR r) := by
  cases r with
  | nil => exact absurd rfl h.n
  | cons t r =>
    unfold maskR
    by_cases hs : isSign t [42] = true
    · simp only [hs, if_true]
      exact h.sub (isSign_k hs)
    · simp only [hs, if_false]
      have h1 := nice_num (mx := 255) h
      cases hR : numR 255 (t :: r) with
      | error f => rw [hR] at h1; exact h1
      | ok p =>
        obtain ⟨a, r2⟩ := p
        rw [hR] at h1
        have h1 : GT r2 := h1
        cases r2 with
        | nil => exact absurd rfl h1.n
        | cons t2 r3 =>
          by_cases hs2 : isSign t2 [47] = true
          · simp only [hs2, if_true]
            have h2 := nice_num (mx := 255) (h1.sub (isSign_k hs2))
            cases hN : numR 255 r3 with
            | error f => rw [hN] at h2; exact h2
            | ok p => rw [hN] at h2; exact h2
          · simp only [hs2, if_false]
            exact h1
theorem nice_act {r : List TokM} (h : GT r) : Nice (actR r) := by
  cases hR : actR r with
  | ok p =>
    obtain ⟨g1, n1⟩ := good_act h.g _ _ hR
    refine ⟨g1, n1, ?_⟩
    cases r with
    | nil => exact absurd rfl h.n
    | cons t r =>
      unfold actR at hR
      simp only at hR
      repeat' split at hR
      all_goals (cases hR)
      all_goals exact h.t.tail
  | error f =>
    cases r with
    | nil => exact absurd rfl h.n
    | cons t r =>
      unfold actR at hR
      simp only at hR
      repeat' split at hR
      all_goals (cases hR)
      exact fok h.t 100 (by decide) (by decide)
/-- The beginnings of a rule's fields have their places. -/
theorem nice_rule {r : List TokM} (h : GT r) : match ruleR r with
    | .error f => FOk f
    | .ok (p, r') => GT r' ∧ ∀ i : Nat, 1 ≤ i → i ≤ 6 → ∃ t, p.2[i]? = some t ∧ 1 ≤ t.line ∧ 1 ≤ t.col := by
  unfold ruleR
  have hd : ∀ {r : List TokM}, GT r → 1 ≤ (r.headD tok0).line ∧ 1 ≤ (r.headD tok0).col := fun {r} h => by
    cases r with
    | nil => exact absurd rfl h.n
    | cons t r => exact h.t t (by simp)
  have n1 := nice_num (mx := 4294967295) h
  cases h1 : numR 4294967295 r with
  | error f => rw [h1] at n1; exact n1
  | ok p1 =>
    rw [h1] at n1
    have n2 := nice_act (r := p1.2) n1
    simp only [Lx.thenR]
    cases h2 : actR p1.2 with
    | error f => rw [h2] at n2; exact n2
    | ok p2 =>
      rw [h2] at n2
      have n3 := nice_pref (r := p2.2) n2
      simp only [Lx.thenR]
      cases h3 : prefR p2.2 with
      | error f => rw [h3] at n3; exact n3
      | ok p3 =>
        rw [h3] at n3
        have n4 := nice_pref (r := p3.2) n3
        simp only [Lx.thenR]
        cases h4 : prefR p3.2 with
        | error f => rw [h4] at n4; exact n4
        | ok p4 =>
          rw [h4] at n4
          have n5 := nice_span (r := p4.2) n4
          simp only [Lx.thenR]
          cases h5 : spanR p4.2 with
          | error f => rw [h5] at n5; exact n5
          | ok p5 =>
            rw [h5] at n5
            have n6 := nice_span (r := p5.2) n5
            simp only [Lx.thenR]
            cases h6 : spanR p5.2 with
            | error f => rw [h6] at n6; exact n6
            | ok p6 =>
              rw [h6] at n6
              have n7 := nice_mask (r := p6.2) n6
              simp only [Lx.thenR]
              cases h7 : maskR p6.2 with
              | error f => rw [h7] at n7; exact n7
              | ok p7 =>
                rw [h7] at n7
                refine ⟨n7, fun i i1 i6 => ?_⟩
                match i, i1, i6 with
                | 1, _, _ => exact ⟨_, rfl, hd h⟩
                | 2, _, _ => exact ⟨_, rfl, hd (r := p2.2) n2⟩
                | 3, _, _ => exact ⟨_, rfl, hd (r := p3.2) n3⟩
                | 4, _, _ => exact ⟨_, rfl, hd (r := p4.2) n4⟩
                | 5, _, _ => exact ⟨_, rfl, hd (r := p5.2) n5⟩
                | 6, _, _ => exact ⟨_, rfl, hd (r := p6.2) n6⟩
theorem parts_code (x : Rul) : ∀ e ∈ x.parts, e = 0 ∨ e = 20 ∨ e = 21 ∨ e = 30 ∨ e = 40 := by
  intro e he
  have hp : ∀ a l : Int, prefixCheck a l = 0 ∨ prefixCheck a l = 20 ∨ prefixCheck a l = 21 := fun a l => by
    unfold prefixCheck
    split
    · simp
    · split
      · simp
      · split <;> simp
  have hs : ∀ a l : Int, spanCheck a l = 0 ∨ spanCheck a l = 30 := fun a l => by unfold spanCheck; split <;> simp
  have hm : ∀ a l : Int, maskCheck a l = 0 ∨ maskCheck a l = 40 := fun a l => by unfold maskCheck; split <;> simp
  unfold Rul.parts at he
  simp only [List.mem_cons, List.not_mem_nil, or_false] at he
  rcases he with rfl | rfl | rfl | rfl | rfl
  · have := hp x.sA x.sL; omega
  · have := hp x.dA x.dL; omega
  · have := hs x.s0 x.s1; omega
  · have := hs x.d0 x.d1; omega
  · have := hm x.pV x.pC; omega
theorem firstBad_in : ∀ (l : List Int) (i : Int) (p : Int × Int), firstBad l i = some p → p.1 ∈ l
  | [], _, _, h => by cases h
  | e :: l, i, p, h => by
    unfold firstBad at h
    split at h
    · cases h; simp
    · exact List.mem_cons_of_mem _ (firstBad_in l _ p h)
/-- rule.Check's faults: numbers and fields (the action is never at fault behind the reader). -/
theorem check_code {x : Rul} (ha : 1 ≤ x.act ∧ x.act ≤ 4) (h : x.check.1 ≠ 0) : x.check.1 ≠ 2 ∧ 1 ≤ x.check.2 ∧ x.check.2 ≤ 6 := by
  unfold Rul.check at h ⊢
  split
  · simp
  · rename_i hid
    rw [if_neg hid] at h
    unfold Rul.check2 at h ⊢
    cases hf : firstBad x.parts 0 with
    | some p =>
      have h1 := firstBad_in _ _ _ hf
      have h2 := parts_code x _ h1
      have h3 := firstBad_ix _ _ _ hf
      simp only [Rul.parts, List.length_cons, List.length_nil] at h3
      simp only [Option.getD_some]
      omega
    | none =>
      rw [hf] at h
      simp only [Option.getD_none, Rul.act0] at h
      split at h
      · simp at h
      · rename_i hn
        omega
theorem rule_act {r r7 : List TokM} {p : Rul × List TokM} (h : ruleR r = .ok (p, r7)) : 1 ≤ p.1.act ∧ p.1.act ≤ 4 := by
  unfold ruleR at h
  obtain ⟨id, r1, a1, h⟩ := then_ok h
  obtain ⟨ac, r2, a2, h⟩ := then_ok h
  obtain ⟨s, r3, a3, h⟩ := then_ok h
  obtain ⟨d, r4, a4, h⟩ := then_ok h
  obtain ⟨sp, r5, a5, h⟩ := then_ok h
  obtain ⟨dp, r6, a6, h⟩ := then_ok h
  obtain ⟨m, r8, a7, h⟩ := then_ok h
  cases h
  exact actR_rng a2
theorem nice_line {out : List Rul} {r : List TokM} (h : GT r) : match lineR out r with
    | .error f => FOk f
    | .ok (_, r') => Good r' ∧ TOk r' := by
  have hd : 1 ≤ (r.headD tok0).line ∧ 1 ≤ (r.headD tok0).col := by
    cases r with
    | nil => exact absurd rfl h.n
    | cons t r => exact h.t t (by simp)
  unfold lineR
  have n1 := nice_rule h
  cases h1 : ruleR r with
  | error f => rw [h1] at n1; exact n1
  | ok p =>
    obtain ⟨⟨x, bs⟩, r1⟩ := p
    rw [h1] at n1
    obtain ⟨n1, hb⟩ := n1
    simp only [Lx.thenR]
    cases hE : endR r1 with
    | error f =>
      cases r1 with
      | nil => exact absurd rfl n1.n
      | cons t r1 =>
        unfold endR at hE
        simp only at hE
        split at hE
        · cases hE
        · cases hE; exact fok n1.t 100 (by decide) (by decide)
    | ok p2 =>
      have hg2 : Good p2.2 := end_good hE n1.g
      have ht2 : TOk p2.2 := by
        cases r1 with
        | nil => exact absurd rfl n1.n
        | cons t r1 =>
          unfold endR at hE
          simp only at hE
          split at hE
          · cases hE; exact n1.t.tail
          · cases hE
      simp only
      by_cases h64 : out.length = 64
      · rw [if_pos h64]
        exact fokN (c := 102) (by decide) (by decide) hd.1 hd.2
      · rw [if_neg h64]
        cases hM : rightM x bs with
        | some f =>
          simp only
          unfold rightM at hM
          split at hM
          · cases hM
          · rename_i hc
            have ck := check_code (rule_act h1) hc
            obtain ⟨i, hi⟩ := Int.eq_ofNat_of_zero_le (show 0 ≤ x.check.2 by have := ck.2.1; have : (1 : Int) ≤ x.check.2 := this; omega)
            have c1 : (1 : Int) ≤ x.check.2 := ck.2.1
            have c6 : x.check.2 ≤ 6 := ck.2.2
            obtain ⟨t, ht, t1, t2⟩ := hb i (by omega) (by omega)
            simp only at ht
            injection hM with hM
            subst hM
            rw [hi, Int.toNat_natCast, ht]
            exact ⟨hc, ck.1, t1, t2⟩
        | none =>
          simp only
          by_cases hin : x.id ∈ (noteL out).map (·.1)
          · rw [if_pos hin]
            exact fokN (c := 103) (by decide) (by decide) hd.1 hd.2
          · rw [if_neg hin]
            exact ⟨hg2, ht2⟩
theorem lines_fok (f : Nat) : ∀ (out : List Rul) (r : List TokM) (e : Flt), Good r → TOk r → linesR lineR f out r = .error e → FOk e := by
  induction f with
  | zero => intro out r e _ _ h; cases h
  | succ f ih =>
    intro out r e g t h
    cases r with
    | nil => cases h
    | cons a r =>
      unfold linesR at h
      split at h
      · exact ih _ _ _ g.rest t.tail h
      · have n := nice_line (out := out) (r := a :: r) ⟨g, by simp, t⟩
        cases hL : lineR out (a :: r) with
        | error e' => rw [hL] at h n; cases h; exact n
        | ok p => rw [hL] at h n; exact ih _ _ _ n.1 n.2 h
/-! ### the lexer's -/
def RdOk : RdR → Prop
  | .tok t _ line' _ w => 1 ≤ t.line ∧ 1 ≤ t.col ∧ 1 ≤ line' ∧ ∀ f, w = some f → FOk f
  | .stop => True
  | .bad f => FOk f
theorem rdTok {k v : Int} {x : List UInt8} {ln cl : Int} {u l c : Nat} {w : Option Flt} (h1 : 1 ≤ ln) (h2 : 1 ≤ cl) (h3 : 1 ≤ l) (h4 : ∀ f, w = some f → FOk f) : RdOk (.tok ⟨k, x, v, ln, cl⟩ u l c w) := ⟨h1, h2, h3, h4⟩
theorem noneF (f : Flt) (h : (none : Option Flt) = some f) : FOk f := by cases h
theorem ends_ok {r : List UInt8} {u line col : Nat} (hl : 1 ≤ line) : RdOk (endsM r u line col) := by
  cases r with
  | nil =>
    simp only [endsM]
    by_cases h0 : col = 0
    · rw [if_pos h0]; trivial
    · rw [if_neg h0]
      exact rdTok (by omega) (by omega) hl noneF
  | cons c r' =>
    simp only [endsM]
    refine rdTok (by omega) (by omega) (by omega) fun f h => ?_
    by_cases h0 : lineLen r' > 200
    · rw [if_pos h0] at h
      cases h
      exact fokN (c := 93) (by decide) (by decide) (by omega) (by decide)
    · rw [if_neg h0] at h
      cases h
theorem chk_ok {k : Nat} {t : List UInt8} {u line col col' : Nat} (hl : 1 ≤ line) (hc : 1 ≤ col) : RdOk (checkM k t u line col col') := by
  unfold checkM
  by_cases h1 : k = 1 ∧ t.length > 16
  · rw [if_pos h1]
    exact fokN (c := 92) (by decide) (by decide) (by omega) (by omega)
  · rw [if_neg h1]
    by_cases h2 : k = 2
    · rw [if_pos h2]
      by_cases h3 : badNum t = true
      · rw [if_pos h3]
        exact fokN (c := 91) (by decide) (by decide) (by omega) (by omega)
      · rw [if_neg h3]
        exact rdTok (by omega) (by omega) hl noneF
    · rw [if_neg h2]
      exact rdTok (by omega) (by omega) hl noneF
theorem read_ok' {r : List UInt8} {line col : Nat} (hl : 1 ≤ line) : RdOk (readM r line col) := by
  simp only [readM]
  cases r.drop (blanks r) with
  | nil => exact ends_ok hl
  | cons c l =>
    simp only
    by_cases h1 : c.toNat = 35
    · rw [if_pos h1]; exact ends_ok hl
    · rw [if_neg h1]
      by_cases h2 : c.toNat = 10
      · rw [if_pos h2]; exact ends_ok hl
      · rw [if_neg h2]
        by_cases h3 : kindB c = 0
        · rw [if_pos h3]
          exact fokN (c := 90) (by decide) (by decide) (by omega) (by omega)
        · rw [if_neg h3]
          exact chk_ok hl (by omega)
theorem lexL_ok (f : Nat) : ∀ (r : List UInt8) (line col : Nat) (R : Except Flt (List TokM)), 1 ≤ line → lexL f r line col = some R → match R with
    | .error e => FOk e
    | .ok ts => TOk ts := by
  induction f with
  | zero => intro r line col R _ h; cases h
  | succ f ih =>
    intro r line col R hl h
    unfold lexL at h
    have hr := read_ok' (r := r) (col := col) hl
    cases hR : readM r line col with
    | stop => rw [hR] at h; cases h; intro t ht; cases ht
    | bad e => rw [hR] at h hr; cases h; exact hr
    | tok t u line' col' w =>
      rw [hR] at h hr
      cases w with
      | some w => cases h; exact hr.2.2.2 w rfl
      | none =>
        simp only at h
        have hi := ih (r.drop u) line' col'
        cases hL : lexL f (r.drop u) line' col' with
        | none => rw [hL] at h; simp at h
        | some R' =>
          have hi := hi R' hr.2.2.1 hL
          cases R' with
          | error e => rw [hL] at h; cases h; exact hi
          | ok l =>
            rw [hL] at h
            simp only [Option.some.injEq] at h
            subst h
            intro x hx
            rcases List.mem_cons.1 hx with rfl | hx
            · exact ⟨hr.1, hr.2.1⟩
            · exact hi x hx
theorem lexM_err {s : List UInt8} {e : Flt} (h : lexM s = some (.error e)) : e = ⟨2, 0, 0⟩ ∨ FOk e := by
  unfold lexM at h
  split at h
  · cases h; exact .inl rfl
  · split at h
    · cases h; exact .inr (fokN (c := 93) (by decide) (by decide) (by decide) (by decide))
    · exact .inr (lexL_ok _ _ _ _ _ (by decide) h)
theorem lexM_tok {s : List UInt8} {ts : List TokM} (h : lexM s = some (.ok ts)) : TOk ts := by
  unfold lexM at h
  split at h
  · cases h
  · split at h
    · cases h
    · exact lexL_ok _ _ _ _ _ (by decide) h
theorem rules_fok {s : List UInt8} {ts : List TokM} {e : Flt} (hl : lexM s = some (.ok ts)) (h : rulesR ts = .error e) : FOk e := lines_fok _ _ _ _ (lexM_good hl).1 (lexM_tok hl) h
end Go.Proofs.YtfdpccbajaiepaaGreatDoor.Lx

/- errors.As at a *api.Fault (after the worked example of errors.As). -/
namespace Go.Proofs.YtfdpccbajaiepaaGreatDoor.As
open Go.RowKit Go.Extern.Stop Go.Stop Go.Extern

theorem as_nil (t : Value) (w : World) :
    Calls Tryz.prog 6 #[.nilIface, t] w fun e w' => e = .returned (.bool false) ∧ w' = w := by
  go_enter Tryz.func6, Tryz.ntmps6
  go_wp2
  go_ret
  exact ⟨rfl, rfl⟩

theorem Asf.valueOf27 (t : Addr) (w : World) : (ReflectliteValue.unpack (.iface 29 (.pointer (some t)))).run Tryz.prog w
    = .ok (.agg #[.pointer (some ⟨4, 29, none⟩), .pointer (some ⟨w.heap.size, 0, none⟩), .int .u64 150]) (w.alloc (.cells #[.pointer (some t)] 29)) := by kernel_rfl
theorem Asf.type27 (a : Addr) (w : World) : (ReflectliteValue.methodAny (ReflectliteValue.valueError "reflectlite.Value.Type" 0) (fun t _ _ _ => ReflectliteType.toType t) #[.agg #[.pointer (some ⟨4, 29, none⟩), .pointer (some a), .int .u64 150]]).run Tryz.prog w
    = .ok (.iface 147 (.agg #[.pointer (some ⟨4, 29, none⟩)])) w := by kernel_rfl
theorem Asf.methodKind (h : Value) (w : World) : (Go.method 334 147 (.agg #[h]) "Kind").run Tryz.prog w = .ok (117, h) w := by kernel_rfl
theorem Asf.kind27 (w : World) : ((ReflectliteType.abiMethod fun t => (fun a : Nat => Value.int IntKind.u8 (a : Int)) <$> Rtype.kind t) #[.pointer (some ⟨4, 29, none⟩)]).run Tryz.prog w = .ok (.int .u8 22) w := by kernel_rfl
theorem Asf.kind25 (w : World) : ((ReflectliteType.abiMethod fun t => (fun a : Nat => Value.int IntKind.u8 (a : Int)) <$> Rtype.kind t) #[.pointer (some ⟨4, 27, none⟩)]).run Tryz.prog w = .ok (.int .u8 22) w := by kernel_rfl

theorem rlm (z : Sem Value) (f : TypeId → Addr → Nat → Nat → Sem Value) (v : Value) :
    ReflectliteValue.method z f #[v] = (do match ← ReflectliteValue.parts v with | none => z | some (t, a, fl) => f t a fl (fl % 32)) := rfl
theorem Asf.parts27 (a : Addr) (w : World) : (ReflectliteValue.parts (.agg #[.pointer (some ⟨4, 29, none⟩), .pointer (some a), .int .u64 150])).run Tryz.prog w = .ok (some (29, a, 150)) w := by kernel_rfl
theorem Asf.isNil27 (a p : Addr) (W : World) (ha : W.cell? a = some (.pointer (some p))) :
    (ReflectliteValue.method (ReflectliteValue.valueError "reflectlite.Value.IsNil" 0) ReflectliteValue.isNil #[.agg #[.pointer (some ⟨4, 29, none⟩), .pointer (some a), .int .u64 150]]).run Tryz.prog W = .ok (.bool false) W := by
  rw [rlm]
  simp only [Sem.run_bind, Asf.parts27, Result.andThen]
  simp [ReflectliteValue.isNil, loadVar, isAgg, underlying, Tryz.underlying29, ha, Result.andThen]

theorem Asf.methodElem (h : Value) (w : World) : (Go.method 334 147 (.agg #[h]) "Elem").run Tryz.prog w = .ok (131, .agg #[h]) w := by kernel_rfl
theorem Asf.methodImplements (h : Value) (w : World) : (Go.method 334 147 (.agg #[h]) "Implements").run Tryz.prog w = .ok (132, .agg #[h]) w := by kernel_rfl
theorem Asf.methodAssignableTo (h : Value) (w : World) : (Go.method 334 147 (.agg #[h]) "AssignableTo").run Tryz.prog w = .ok (129, .agg #[h]) w := by kernel_rfl
theorem Asf.elem27 (w : World) : (ReflectliteType.method ReflectliteType.elem #[.agg #[.pointer (some ⟨4, 29, none⟩)]]).run Tryz.prog w = .ok (.iface 147 (.agg #[.pointer (some ⟨4, 27, none⟩)])) w := by kernel_rfl
theorem Asf.implements25 (w : World) : (ReflectliteType.relation "Implements" ReflectliteType.implements_ #[.agg #[.pointer (some ⟨4, 27, none⟩)], .iface 147 (.agg #[.pointer (some ⟨4, 24, none⟩)])]).run Tryz.prog w = .ok (.bool true) w := by kernel_rfl
theorem Asf.typeOf25 (v : Value) (w : World) : (ReflectliteType.typeOf #[.iface 27 v]).run Tryz.prog w = .ok (.iface 147 (.agg #[.pointer (some ⟨4, 27, none⟩)])) w := by kernel_rfl
theorem Asf.assignable25 (w : World) : (ReflectliteType.relation "AssignableTo" ReflectliteType.assignableTo #[.agg #[.pointer (some ⟨4, 27, none⟩)], .iface 147 (.agg #[.pointer (some ⟨4, 27, none⟩)])]).run Tryz.prog w = .ok (.bool true) w := by kernel_rfl
theorem Asf.valueOf25 (e : Addr) (w : World) : (ReflectliteValue.unpack (.iface 27 (.pointer (some e)))).run Tryz.prog w
    = .ok (.agg #[.pointer (some ⟨4, 27, none⟩), .pointer (some ⟨w.heap.size, 0, none⟩), .int .u64 150]) (w.alloc (.cells #[.pointer (some e)] 27)) := by kernel_rfl

theorem Asf.elemOf27 (w : World) : (Rtype.elem? 29).run Tryz.prog w = .ok (some 27) w := by kernel_rfl
theorem Asf.mk25 (p : Addr) (w : World) : (ReflectliteValue.mk 27 p ReflectliteValue.flagAddr).run Tryz.prog w = .ok (.agg #[.pointer (some ⟨4, 27, none⟩), .pointer (some p), .int .u64 406]) w := by kernel_rfl
theorem Asf.elemV27 (a p : Addr) (W : World) (ha : W.cell? a = some (.pointer (some p))) :
    (ReflectliteValue.method (ReflectliteValue.valueError "reflectlite.Value.Elem" 0) ReflectliteValue.elem #[.agg #[.pointer (some ⟨4, 29, none⟩), .pointer (some a), .int .u64 150]]).run Tryz.prog W
      = .ok (.agg #[.pointer (some ⟨4, 27, none⟩), .pointer (some p), .int .u64 406]) W := by
  rw [rlm]
  simp only [Sem.run_bind, Asf.parts27, Result.andThen]
  simp [ReflectliteValue.elem, loadVar, isAgg, underlying, Tryz.underlying29, ha, Result.andThen, Asf.elemOf27, Asf.mk25]
theorem rls (v x : Value) : ReflectliteValue.set #[v, x] = (do
    let (some (dst, a, fl), some (src, b, _)) := (← ReflectliteValue.parts v, ← ReflectliteValue.parts x)
      | unsupported (.noEntry "extern/(internal/reflectlite.Value).Set.zeroValue")
    if fl / ReflectliteValue.flagAddr % 2 == 0 then unsupported (.noEntry "extern/(internal/reflectlite.Value).Set.unaddressable")
    let val ← loadVar src b
    if ← Rtype.directlyAssignable dst src then storeVar dst a val
    else if ← Rtype.implements dst src then
      if (← Rtype.kind src) == 20 then
        match val with
        | .nilIface => unsupported (.noEntry "extern/reflectlite: a nil value of one interface type handed on as a value of another")
        | _ => storeVar dst a val
      else storeVar dst a (.iface src val)
    else panicString ("reflectlite.Set: value of type " ++ (← Rtype.spelt src) ++ " is not assignable to type " ++ (← Rtype.spelt dst))
    pure (.tuple #[])) := rfl
theorem Asf.parts25a (a : Addr) (w : World) : (ReflectliteValue.parts (.agg #[.pointer (some ⟨4, 27, none⟩), .pointer (some a), .int .u64 406])).run Tryz.prog w = .ok (some (27, a, 406)) w := by kernel_rfl
theorem Asf.parts25 (a : Addr) (w : World) : (ReflectliteValue.parts (.agg #[.pointer (some ⟨4, 27, none⟩), .pointer (some a), .int .u64 150])).run Tryz.prog w = .ok (some (27, a, 150)) w := by kernel_rfl
theorem Asf.direct25 (w : World) : (Rtype.directlyAssignable 27 27).run Tryz.prog w = .ok true w := by kernel_rfl
theorem Asf.size25 (w : World) : (sizeOf 27).run Tryz.prog w = .ok 1 w := by kernel_rfl
theorem Asf.set25 (ta b e : Addr) (old : Value) (W : World) (hb : W.cell? b = some (.pointer (some e))) (ht : W.cell? ta = some old) (hf : W.frozen? ta = false) :
    (ReflectliteValue.set #[.agg #[.pointer (some ⟨4, 27, none⟩), .pointer (some ta), .int .u64 406], .agg #[.pointer (some ⟨4, 27, none⟩), .pointer (some b), .int .u64 150]]).run Tryz.prog W
      = .ok (.tuple #[]) (W.setCell ta (.pointer (some e))) := by
  rw [rls]
  simp only [Sem.run_bind, Asf.parts25a, Asf.parts25, Result.andThen]
  simp [ReflectliteValue.flagAddr, loadVar, isAgg, underlying, Tryz.underlying27, hb, Result.andThen, Asf.direct25, storeVar, Value.cells, storeCells, Addr.add]
  rw [run_store Tryz.prog W ta _ _ (by rfl)]
  simp [ht, hf]

set_option maxHeartbeats 4000000 in
theorem as_hit (e t : Addr) (old : Value) (w : World) (hg : w.cell? ⟨0, 0, none⟩ = some (.iface 147 (.agg #[.pointer (some ⟨4, 24, none⟩)]))) (ht0 : w.cell? t = some old) (hf0 : w.frozen? t = false) :
    Calls Tryz.prog 6 #[.iface 27 (.pointer (some e)), .iface 29 (.pointer (some t))] w fun ev w' => ev = .returned (.bool true) ∧ w' = ((((w.alloc (.cells #[.pointer (some t)] 29)).alloc (.cells #[.pointer (some ⟨4, 29, none⟩), .pointer (some ⟨w.heap.size, 0, none⟩), .int .u64 150] 92)).alloc (.cells #[.pointer (some ⟨4, 29, none⟩), .pointer (some ⟨w.heap.size, 0, none⟩), .int .u64 150] 92)).alloc (.cells #[.pointer (some e)] 27)).setCell t (.pointer (some e)) := by
  have h6 := @run_callFunc_extern Tryz.prog 27 _ (fun args => ReflectliteValue.unpack (args.getD 0 (.tuple #[]))) Tryz.func27 (by kernel_rfl) (by kernel_rfl) (by kernel_rfl) (by kernel_rfl)
  have h7 := @run_callFunc_extern Tryz.prog 28 _ (ReflectliteValue.methodAny (ReflectliteValue.valueError "reflectlite.Value.Type" 0) (fun t _ _ _ => ReflectliteType.toType t)) Tryz.func28 (by kernel_rfl) (by kernel_rfl) (by kernel_rfl) (by kernel_rfl)
  have h8 := @run_callFunc_extern Tryz.prog 29 _ (ReflectliteValue.method (ReflectliteValue.valueError "reflectlite.Value.IsNil" 0) ReflectliteValue.isNil) Tryz.func29 (by kernel_rfl) (by kernel_rfl) (by kernel_rfl) (by kernel_rfl)
  have h27 := @run_callFunc_extern Tryz.prog 117 _ (ReflectliteType.abiMethod fun t => do pure (.int .u8 (← Rtype.kind t))) Tryz.func117 (by kernel_rfl) (by kernel_rfl) (by kernel_rfl) (by kernel_rfl)
  have h37 := @run_callFunc_extern Tryz.prog 131 _ (ReflectliteType.method ReflectliteType.elem) Tryz.func131 (by kernel_rfl) (by kernel_rfl) (by kernel_rfl) (by kernel_rfl)
  have h38 := @run_callFunc_extern Tryz.prog 132 _ (ReflectliteType.relation "Implements" ReflectliteType.implements_) Tryz.func132 (by kernel_rfl) (by kernel_rfl) (by kernel_rfl) (by kernel_rfl)
  have h10 := @run_callFunc_extern Tryz.prog 31 _ ReflectliteType.typeOf Tryz.func31 (by kernel_rfl) (by kernel_rfl) (by kernel_rfl) (by kernel_rfl)
  have h35 := @run_callFunc_extern Tryz.prog 129 _ (ReflectliteType.relation "AssignableTo" ReflectliteType.assignableTo) Tryz.func129 (by kernel_rfl) (by kernel_rfl) (by kernel_rfl) (by kernel_rfl)
  have h11 := @run_callFunc_extern Tryz.prog 60 _ (ReflectliteValue.method (ReflectliteValue.valueError "reflectlite.Value.Elem" 0) ReflectliteValue.elem) Tryz.func60 (by kernel_rfl) (by kernel_rfl) (by kernel_rfl) (by kernel_rfl)
  have h12 := @run_callFunc_extern Tryz.prog 61 _ ReflectliteValue.set Tryz.func61 (by kernel_rfl) (by kernel_rfl) (by kernel_rfl) (by kernel_rfl)
  have tO := Asf.typeOf25
  have mA := Asf.methodAssignableTo
  have a25 := Asf.assignable25
  have v25 := Asf.valueOf25
  have f6 := Asf.valueOf27
  have f7 := Asf.type27
  have mK := Asf.methodKind
  have mE := Asf.methodElem
  have mI := Asf.methodImplements
  have k27 := Asf.kind27
  have k25 := Asf.kind25
  have e27 := Asf.elem27
  have i25 := Asf.implements25
  have n8 := Asf.isNil27 ⟨w.heap.size, 0, none⟩ t ((w.alloc (.cells #[.pointer (some t)] 29)).alloc (.cells #[.pointer (some ⟨4, 29, none⟩), .pointer (some ⟨w.heap.size, 0, none⟩), .int .u64 150] 92)) (by simp)
  have hlt : 0 < w.heap.size := by
    rcases Nat.eq_zero_or_pos w.heap.size with h0 | h
    · simp [World.cell?, h0] at hg
    · exact h
  have hg2 : ((w.alloc (.cells #[.pointer (some t)] 29)).alloc (.cells #[.pointer (some ⟨4, 29, none⟩), .pointer (some ⟨w.heap.size, 0, none⟩), .int .u64 150] 92)).cell? ⟨0, 0, none⟩ = some (.iface 147 (.agg #[.pointer (some ⟨4, 24, none⟩)])) := by
    rw [World.cell?_alloc_lt _ _ ⟨0, 0, none⟩ (by simp), World.cell?_alloc_lt _ _ ⟨0, 0, none⟩ hlt]; exact hg
  have htl : t.block < w.heap.size := by
    rcases Nat.lt_or_ge t.block w.heap.size with h | h
    · exact h
    · simp [World.cell?, Array.getElem?_eq_none h] at ht0
  have el := Asf.elemV27 ⟨w.heap.size, 0, none⟩ t (((w.alloc (.cells #[.pointer (some t)] 29)).alloc (.cells #[.pointer (some ⟨4, 29, none⟩), .pointer (some ⟨w.heap.size, 0, none⟩), .int .u64 150] 92)).alloc (.cells #[.pointer (some ⟨4, 29, none⟩), .pointer (some ⟨w.heap.size, 0, none⟩), .int .u64 150] 92)) (by rw [World.cell?_alloc_lt _ _ ⟨w.heap.size, 0, none⟩ (by simp; omega)]; simp)
  have st := Asf.set25 t ⟨w.heap.size + 1 + 1 + 1, 0, none⟩ e old ((((w.alloc (.cells #[.pointer (some t)] 29)).alloc (.cells #[.pointer (some ⟨4, 29, none⟩), .pointer (some ⟨w.heap.size, 0, none⟩), .int .u64 150] 92)).alloc (.cells #[.pointer (some ⟨4, 29, none⟩), .pointer (some ⟨w.heap.size, 0, none⟩), .int .u64 150] 92)).alloc (.cells #[.pointer (some e)] 27))
    (by rw [World.cell?_alloc_at _ _ _ _ (by simp)]; rfl)
    (by rw [World.cell?_alloc_lt _ _ t (by simp; omega), World.cell?_alloc_lt _ _ t (by simp; omega), World.cell?_alloc_lt _ _ t (by simp; omega), World.cell?_alloc_lt _ _ t htl]; exact ht0)
    (by rw [World.frozen?_alloc_old _ _ t (by simp; omega), World.frozen?_alloc_old _ _ t (by simp; omega), World.frozen?_alloc_old _ _ t (by simp; omega), World.frozen?_alloc_old _ _ t (Nat.ne_of_lt htl)]; exact hf0)
  go_enter Tryz.func6, Tryz.ntmps6
  go_wp2
  refine wp_loop_rounds 1 ?_
  rw [rounds_succ]
  go_wp2
  go_ret
  exact ⟨rfl, rfl⟩
end Go.Proofs.YtfdpccbajaiepaaGreatDoor.As

/- errors.Is of a *api.Fault against an Errno (after the worked example of errors.Is). -/
namespace Go.Proofs.YtfdpccbajaiepaaGreatDoor.Is
open Go.RowKit Go.Extern.Stop Go.Stop Go.Extern
theorem typeOfE (v : Value) (w : World) : (Extern.ReflectliteType.typeOf #[.iface 31 v]).run Tryz.prog w = .ok (.iface 147 (.agg #[.pointer (some ⟨4, 31, none⟩)])) w := by kernel_rfl
theorem compE (w : World) : ((Extern.ReflectliteType.method fun t => do Extern.Rtype.noPackHeld "Comparable" t; (fun a => Value.bool a.comparable) <$> typeInfo t) #[.agg #[.pointer (some ⟨4, 31, none⟩)]]).run Tryz.prog w = .ok (.bool true) w := by kernel_rfl
theorem methodComp (v : Value) (w : World) : (Go.method 334 147 v "Comparable").run Tryz.prog w = .ok (130, v) w := by kernel_rfl
theorem noIsE (v : Value) (xT : TypeId) (w : World) : (Instr.typeAssert (.iface 31 v) xT 159 true).run Tryz.prog w = .ok (.tuple #[.nilIface, .bool false]) w := run_typeAssert_lacksB Tryz.underlying159 (by kernel_rfl) (by kernel_rfl) v xT w
theorem noUnwrapE (v : Value) (xT : TypeId) (w : World) : (Instr.typeAssert (.iface 31 v) xT 154 true).run Tryz.prog w = .ok (.tuple #[.nilIface, .bool false]) w := run_typeAssert_lacksB Tryz.underlying154 (by kernel_rfl) (by kernel_rfl) v xT w
theorem noUnwrapsE (v : Value) (xT : TypeId) (w : World) : (Instr.typeAssert (.iface 31 v) xT 156 true).run Tryz.prog w = .ok (.tuple #[.nilIface, .bool false]) w := run_typeAssert_lacksB Tryz.underlying156 (by kernel_rfl) (by kernel_rfl) v xT w
theorem noIsW (v : Value) (xT : TypeId) (w : World) : (Instr.typeAssert (.iface 27 v) xT 159 true).run Tryz.prog w = .ok (.tuple #[.nilIface, .bool false]) w := run_typeAssert_lacksB Tryz.underlying159 (by kernel_rfl) (by kernel_rfl) v xT w
theorem hasUnwrapW (v : Value) (xT : TypeId) (w : World) : (Instr.typeAssert (.iface 27 v) xT 154 true).run Tryz.prog w = .ok (.tuple #[.iface 27 v, .bool true]) w := run_typeAssert_hasB Tryz.underlying154 (by kernel_rfl) v xT w
theorem methodUnwrap (v : Value) (w : World) : (Go.method 334 27 v "Unwrap").run Tryz.prog w = .ok (121, v) w := by kernel_rfl
theorem eqE (c : Int) (w : World) : (binOp .eql 24 (.iface 31 (.int .i64 c)) (.iface 31 (.int .i64 2))).run Tryz.prog w = .ok (.bool (decide (c = 2))) w := by
  rw [Lib.run_eql_iface_int w c 2 Tryz.underlying24 (by kernel_rfl) Tryz.underlying31]
  by_cases h : c = 2 <;> simp [h]
set_option maxRecDepth 100000 in
set_option maxHeartbeats 4000000 in
/-- errors.Is(f, 2), f a pointer to a Fault of the number c. -/
theorem is_fault (g : Nat) (c : Int) (w : World) (h1 : w.cell? ⟨g, 0, none⟩ = some (.int .i64 c)) :
    Calls Tryz.prog 7 #[.iface 27 (.pointer (some ⟨g, 0, none⟩)), .iface 31 (.int .i64 2)] w fun e w' => e = .returned (.bool (decide (c = 2))) ∧ w' = w := by
  have h8 := @run_callFunc_extern Tryz.prog 31 _ Extern.ReflectliteType.typeOf Tryz.func31 (by kernel_rfl) (by kernel_rfl) (by kernel_rfl) (by kernel_rfl)
  have h32 := @run_callFunc_extern Tryz.prog 130 _ (Extern.ReflectliteType.method fun t => do Extern.Rtype.noPackHeld "Comparable" t; pure (.bool (← typeInfo t).comparable)) Tryz.func130 (by kernel_rfl) (by kernel_rfl) (by kernel_rfl) (by kernel_rfl)
  have tT := typeOfE
  have cT := compE
  have mR := methodComp
  have nE := noIsE
  have uE := noUnwrapE
  have vE := noUnwrapsE
  have nW := noIsW
  have uW := hasUnwrapW
  have mU := methodUnwrap
  have heq := eqE c
  have hty := run_eql_iface_types (P := Tryz.prog) 27 31 (.pointer (some ⟨g, 0, none⟩)) (.int .i64 2) Tryz.underlying24 (by decide) w
  have gd : ∀ a0 a1 a2 a3 a4 a5 a6 a7 a8 a9 : Value, (#[a0, a1, a2, a3, a4, a5, a6, a7, a8, a9] : Array Value).getD 2 undef = a2 := fun _ _ _ _ _ _ _ _ _ _ => rfl
  generalize decide (c = 2) = d at heq ⊢
  go_enter Tryz.func7, Tryz.ntmps7
  go_wp2
  refine wp_loop_rounds 2 ?_
  rw [rounds_succ]
  go_wp2
  rw [rounds_succ]
  cases d
  · go_wp2
    simp only [gd]
    go_wp2
    go_ret
    exact ⟨rfl, rfl⟩
  · go_wp2
    simp only [gd]
    go_wp2
    go_ret
    exact ⟨rfl, rfl⟩
end Go.Proofs.YtfdpccbajaiepaaGreatDoor.Is

/- errors.As and errors.Is in plain words; the handle of the type 'error'. -/
namespace Go.Proofs.YtfdpccbajaiepaaGreatDoor.Lx
open Go Go.RowKit Go.Proofs.YtfdpccbajaiepaaGreatDoor.Sx
set_option linter.unusedVariables false
set_option linter.unusedSimpArgs false
set_option maxRecDepth 10000
def hdV : Value := .iface 147 (.agg #[.pointer (some ⟨4, 24, none⟩)])
/-- The handle of the type 'error' lies in its variable. -/
def Hd (h : Hp) : Prop := cell h ⟨0, 0, none⟩ = some hdV
theorem Hd.ext {h h' : Hp} (d : Hd h) (e : Ext h h') : Hd h' := e.cell d
theorem As_s {h : Hp} (d : Hd h) {g bt : Nat} {v : Value} (hb : h[bt]? = some (.cells [v].toArray 27 (0, 0))) {K : Value → Hp → Prop}
    (H : ∀ h', h'[bt]? = some (.cells [.pointer (some ⟨g, 0, none⟩)].toArray 27 (0, 0)) → Fr (fun k => k = bt) h h' → K (.bool true) h') :
    CallsH Tryz.prog 6 #[.iface 27 (.pointer (some ⟨g, 0, none⟩)), .iface 29 (.pointer (some ⟨bt, 0, none⟩))] h K := fun w hw => by
  subst hw
  have hc : w.cell? ⟨bt, 0, none⟩ = some v := by
    have := cell_of (h := w.heap) (o := 0) hb
    exact this
  have hz : w.frozen? ⟨bt, 0, none⟩ = false := by
    have := frozen_false (h := w.heap) (o := 0) hb
    exact this
  refine (As.as_hit ⟨g, 0, none⟩ ⟨bt, 0, none⟩ v w d hc hz).mono fun e w' hh => ?_
  obtain ⟨rfl, hw'⟩ := hh
  obtain ⟨w4, h4⟩ : ∃ w4, w4 = ((((w.alloc (.cells #[.pointer (some ⟨bt, 0, none⟩)] 29)).alloc (.cells #[.pointer (some ⟨4, 29, none⟩), .pointer (some ⟨w.heap.size, 0, none⟩), .int .u64 150] 92)).alloc (.cells #[.pointer (some ⟨4, 29, none⟩), .pointer (some ⟨w.heap.size, 0, none⟩), .int .u64 150] 92)).alloc (.cells #[.pointer (some ⟨g, 0, none⟩)] 27)) := ⟨_, rfl⟩
  rw [← h4] at hw'
  have e4 : Ext w.heap w4.heap := by
    rw [h4]
    exact (((Ext.push _ _).trans (Ext.push _ _)).trans (Ext.push _ _)).trans (Ext.push _ _)
  have s4 : Same w w4 := by
    rw [h4]
    exact ⟨rfl, rfl, rfl, trivial⟩
  have b4 : w4.heap[bt]? = some (.cells [v].toArray 27 (0, 0)) := by rw [e4.old _ (lt_of_get hb)]; exact hb
  have hh : w'.heap = setB w4.heap bt ([v].set 0 (.pointer (some ⟨g, 0, none⟩))) 27 := by
    rw [hw']
    have := setCell_heap (h := w4.heap) (o := 0) (v := .pointer (some ⟨g, 0, none⟩)) b4
    exact this
  have s' : Same w w' := by
    rw [hw']
    exact ⟨s4.os, s4.tape, s4.output, trivial⟩
  refine ⟨_, rfl, s', ?_⟩
  rw [hh]
  refine H _ (setB_get (lt_of_get b4)) ?_
  exact (e4.fr _).trans (setB_fr rfl)
theorem Is_s {h : Hp} {g : Nat} {f : Flt} (hf : FltC h g f) {K : Value → Hp → Prop} (H : K (.bool (decide (f.code = 2))) h) :
    CallsH Tryz.prog 7 #[.iface 27 (.pointer (some ⟨g, 0, none⟩)), .iface 31 (.int .i64 2)] h K := fun w hw => by
  subst hw
  have hc : w.cell? ⟨g, 0, none⟩ = some (.int .i64 f.code) := by
    have := cell_of (h := w.heap) (o := 0) hf
    exact this
  refine (Is.is_fault g f.code w hc).mono fun e w' hh => ?_
  obtain ⟨rfl, rfl⟩ := hh
  exact ⟨_, rfl, Same.refl _, H⟩
end Go.Proofs.YtfdpccbajaiepaaGreatDoor.Lx

/- Rules of a text that the lexer refuses. -/
namespace Go.Proofs.YtfdpccbajaiepaaGreatDoor.Lx
open Go Go.RowKit Go.Proofs.YtfdpccbajaiepaaGreatDoor.Sx Go.Proofs.YtfdpccbajaiepaaGreatDoor.Sxp Go.Proofs.YtfdpccbajaiepaaGreatDoor.Sxp.Fx Go.Proofs.YtfdpccbajaiepaaGreatDoor.Fs
set_option linter.unusedVariables false
set_option linter.unusedSimpArgs false
set_option maxRecDepth 10000
theorem Read_e {h0 : Hp} {s : List UInt8} {f : Flt} (hl : lexM s = some (.error f)) (d : Hd h0) (v : Value) {K : Value → Hp → Prop}
    (H : ∀ h' g, Ext h0 h' → h0.size ≤ g → FltC h' g f → K (.iface 27 (.pointer (some ⟨g, 0, none⟩))) h') :
    CallsH Tryz.prog 21 #[.string (bs s), v] h0 K := by
  refine read_ok _ _ ?_
  unfold read_pre
  refine newC_i (cs := [.nilIface]) fun h1 e1 c1 b1 z1 => ?_
  refine Sx.CallsH.p (All_s hl ?_)
  intro h2 g e2 hg hf
  have b2 : h2[h0.size]? = some (.cells [.nilIface].toArray 24 (0, 0)) := by rw [e2.old _ (by omega)]; exact b1
  refine ⟨_, _, _, _, rfl, ?_⟩
  refine HU_box (us := [.iface 27 (.pointer (some ⟨g, 0, none⟩))]) b2 rfl rfl (by kernel_rfl) rfl fun h3 c3 b3 f3 z3 => ?_
  refine ⟨_, ld (c3.at_ 0 _ rfl) (by kernel_rfl), true, fun w => pureRun_run _ _ _ (by kernel_rfl) w, br_t rfl ?_⟩
  refine newC_i (cs := [.pointer none]) fun h4 e4 c4 b4 z4 => ?_
  refine ⟨_, ld ((c3.ext e4).at_ 0 _ rfl) (by kernel_rfl), ?_⟩
  have E2 : Ext h0 h2 := e1.trans e2
  have E3 : Ext h0 h3 := extOwn E2 f3 (fun k hk => by omega)
  have hf3 : FltC h3 g f := f3.get hf (by omega)
  have hg3 : g < h3.size := lt_of_get hf3
  have hs3 : h1.size ≤ h3.size := by have := e2.size; omega
  refine Sx.CallsH.p (As_s (d.ext (E3.trans e4)) b4 fun h5 b5 f5 => ⟨_, rfl, br_t rfl ?_⟩)
  have c5 : Cl h5 ⟨h3.size, 0, none⟩ [.pointer (some ⟨g, 0, none⟩)] := Cl.of_block b5 fun j v hj => by rw [Nat.zero_add]; exact hj
  refine ⟨_, ld (c5.at_ 0 _ rfl) (by kernel_rfl), ?_⟩
  have b3' : h5[h0.size]? = some (.cells [.iface 27 (.pointer (some ⟨g, 0, none⟩))].toArray 24 (0, 0)) := f5.get (by rw [e4.old _ (by omega)]; exact b3) (by omega)
  refine HU_box (us := [.iface 27 (.pointer (some ⟨g, 0, none⟩))]) b3' rfl rfl (by kernel_rfl) rfl fun h6 c6 b6 f6 z6 => ?_
  refine ⟨_, ld (c6.at_ 0 _ rfl) (by kernel_rfl), ?_⟩
  have E6 : Ext h0 h6 := extOwn (extOwn (E3.trans e4) f5 (fun k hk => by omega)) f6 (fun k hk => by omega)
  refine H h6 g E6 (by omega) (f6.get (f5.get (?_) (by omega)) (by omega))
  show h4[g]? = _
  rw [e4.old _ hg3]
  exact hf3
theorem Rules_e {h : Hp} {s : List UInt8} {f : Flt} (hl : lexM s = some (.error f)) (d : Hd h) {K : Value → Hp → Prop}
    (H : ∀ h' g, Ext h h' → h.size ≤ g → FltC h' g f → K (.tuple #[.slice none 0 0, .iface 27 (.pointer (some ⟨g, 0, none⟩))]) h') :
    CallsH Tryz.prog 5 #[.string (bs s)] h K := by
  refine syntax_Rules_ok _ ?_
  unfold syntax_Rules
  refine newC_i (cs := [.slice none 0 0]) fun h1 e1 c1 b1 z1 => ?_
  refine makeN fun h2 e2 z2 m2 => ⟨_, rfl, ?_⟩
  refine newC_i (cs := [.map none]) fun h3 e3 c3 b3 z3 => ?_
  refine HU_box (us := [.map (some h1.size)]) b3 rfl rfl (by kernel_rfl) rfl fun h4 c4 b4 f4 z4 => ?_
  have E4 : Ext h h4 := extOwn ((e1.trans e2).trans e3) f4 (fun k hk => by omega)
  refine Read_e hl (d.ext E4) _ fun h5 g e5 hg hf => ?_
  refine ⟨_, rfl, true, fun w => ?_, br_t rfl (H h5 g (E4.trans e5) (by have := E4.size; omega) hf)⟩
  exact pureRun_run _ _ _ (by kernel_rfl) w
end Go.Proofs.YtfdpccbajaiepaaGreatDoor.Lx

/- The table's functions, by names: what each leaves. (Began as wip/table/XTSpec2 to 4.) -/
namespace Go.Proofs.YtfdpccbajaiepaaGreatDoor.Fs
open Go Go.RowKit Go.Proofs.YtfdpccbajaiepaaGreatDoor.Sx Go.Proofs.YtfdpccbajaiepaaGreatDoor.Sxp.Fx
set_option linter.unusedVariables false
set_option linter.unusedSimpArgs false
set_option maxRecDepth 10000
theorem table_in_s (n a b : Int) {h : Hp} {K : Value → Hp → Prop} (H : K (.bool (decide (n ≥ a) && decide (n ≤ b))) h) : CallsH Tryz.prog 63 #[.int .i64 n, .int .i64 a, .int .i64 b] h K := by
  refine table_in_ok n a b ?_
  unfold table_in
  refine br_i (fun e => ?_) (fun e => ?_)
  · rw [e] at H; simpa using H
  · rw [e] at H; simpa using H
def findI (xs : List Rul) (id : Int) : Int := match xs.findIdx? (fun r => r.id == id) with
  | some i => i
  | none => -1
theorem info55 : ∃ i z, Tryz.prog.info? 75 = some i ∧ i.size = 12 ∧ i.bytes = 64 ∧ i.zero = some z ∧ z.cells = #[.int .i64 0, .int .u32 0, .int .i64 0, .int .u32 0, .int .i64 0, .int .u16 0, .int .u16 0, .int .u16 0, .int .u16 0, .int .u8 0, .int .u8 0, .int .i64 0] :=
  ⟨_, _, rfl, rfl, rfl, rfl, rfl⟩
theorem size55 : (Tryz.prog.info? 75).map (·.size) = some 12 := by kernel_rfl
theorem und32 : Tryz.prog.underlying 22 = some (.slice 75) := by kernel_rfl
theorem rd_elem {h : Hp} {A : Option Addr} {l c : Nat} {xs : List Rul} (r : RSl h A l 12 (xs.flatMap Rul.enc)) (hl : xs.length = l) {i : Nat} (hi : i < l) :
    ∃ a : Addr, PV Tryz.prog (Instr.indexAt 22 (.slice A l c) (.int .i64 (i : Int))) (.pointer (some (a.add (i * 12)))) ∧ Cl h (a.add (i * 12)) (Rul.enc (xs[i]'(by omega))) := by
  obtain ⟨a, rfl, _⟩ := r.some (by omega)
  refine ⟨a, ?_, r.elem Rul.enc_len (List.getElem?_eq_getElem (by omega)) hl⟩
  exact ix (T := 22) (E := 75) (sz := 12) (k := .i64) (i := (i : Int)) (by omega) (by omega) und32 size55
theorem find_l1 {h : Hp} {A : Option Addr} {l c : Nat} {xs : List Rul} (r : RSl h A l 12 (xs.flatMap Rul.enc)) (hl : xs.length = l) (id : Int) (hlen : l < 2 ^ 62) {K0 : Int → Hp → Prop} {K1 : Hp → Prop} (H : K0 (findI xs id) h ∨ True) :
    ∀ (d n k : Nat), n + d = l → d < k → (∀ j, j < n → ∀ x, xs[j]? = some x → x.id ≠ id) →
      (∀ j : Nat, (∀ x, xs[j]? = some x → x.id = id) → j < l → (∀ m, m < j → ∀ x, xs[m]? = some x → x.id ≠ id) → K0 j h) → ((∀ x ∈ xs, x.id ≠ id) → K1 h) →
      table_find_l1 A l c id (l : Int) K0 K1 k n h := by
  intro d
  induction d with
  | zero =>
    intro n k hn hk hno hK0 hK1
    obtain ⟨k, rfl⟩ : ∃ m, k = m + 1 := ⟨k - 1, by omega⟩
    unfold table_find_l1
    refine br_f (by simp; omega) (hK1 fun x hx e => ?_)
    obtain ⟨j, hj⟩ := List.getElem?_of_mem hx
    exact hno j (by have := (List.getElem?_eq_some_iff.1 hj).1; omega) x hj e
  | succ d ih =>
    intro n k hn hk hno hK0 hK1
    obtain ⟨k, rfl⟩ : ∃ m, k = m + 1 := ⟨k - 1, by omega⟩
    unfold table_find_l1
    refine br_t (by simp; omega) ?_
    obtain ⟨a, hp, hcl⟩ := rd_elem (c := c) r hl (i := n) (by omega)
    refine ⟨_, hp, (xs[n]'(by omega)).id, ld (Cl.head hcl) (by kernel_rfl), ?_⟩
    have hx : xs[n]? = some (xs[n]'(by omega)) := List.getElem?_eq_getElem (by omega)
    refine br_i (fun e => ?_) (fun e => ?_)
    · exact hK0 n (fun x hx' => by rw [hx] at hx'; injection hx' with hx'; subst hx'; simpa using e) (by omega) hno
    · rw [wrap_in (by omega) (by omega)]
      refine ih (n + 1) k (by omega) (by omega) (fun j hj x hx' => ?_) hK0 hK1
      by_cases hjn : j = n
      · subst hjn; rw [hx] at hx'; injection hx' with hx'; subst hx'; simpa using e
      · exact hno j (by omega) x hx'
theorem findI_at {xs : List Rul} {id : Int} {j : Nat} (hj : j < xs.length) (h1 : ∀ x, xs[j]? = some x → x.id = id) (h2 : ∀ m, m < j → ∀ x, xs[m]? = some x → x.id ≠ id) : findI xs id = j := by
  unfold findI
  have : xs.findIdx? (fun r => r.id == id) = some j := by
    rw [List.findIdx?_eq_some_iff_getElem]
    refine ⟨hj, by simpa using h1 _ (List.getElem?_eq_getElem hj), fun m hm => ?_⟩
    simpa using h2 m hm _ (List.getElem?_eq_getElem (by omega))
  rw [this]
theorem findI_none {xs : List Rul} {id : Int} (h : ∀ x ∈ xs, x.id ≠ id) : findI xs id = -1 := by
  unfold findI
  have : xs.findIdx? (fun r => r.id == id) = none := by
    rw [List.findIdx?_eq_none_iff]
    intro x hx
    simpa using h x hx
  rw [this]
theorem table_find_s {h : Hp} {A : Option Addr} {l c : Nat} {xs : List Rul} (r : RSl h A l 12 (xs.flatMap Rul.enc)) (hl : xs.length = l) (id : Int) (hlen : l < 2 ^ 62) {K : Value → Hp → Prop} (H : K (.int .i64 (findI xs id)) h) : CallsH Tryz.prog 64 #[Value.slice A l c, .int .i64 id] h K := by
  refine table_find_ok _ _ _ _ ?_
  unfold table_find
  refine ⟨l + 1, ?_⟩
  refine find_l1 r hl id hlen (.inr trivial) l 0 (l + 1) (by omega) (by omega) (fun j hj => by omega) (fun j h1 hj h2 => ?_) (fun hno => ?_)
  · rw [findI_at (by omega) h1 h2] at H; exact H
  · rw [findI_none hno] at H; exact H
theorem Rul.flatT (r : Rul) : r.enc.all flatV = true := rfl
theorem Rul.cells_val (r : Rul) : r.val.cells = r.enc.toArray := rfl
/-- A configuration. -/
structure Cfg where
  max : Int
  dflt : Int
  prune : Int
  grid : Int
  tuple : Int
  binth : Int
  depth : Int
  deriving DecidableEq
def Cfg.enc (c : Cfg) : List Value := [.int .i64 c.max, .int .i64 c.dflt, .int .i64 c.prune, .int .i64 c.grid, .int .i64 c.tuple, .int .i64 c.binth, .int .i64 c.depth]
def Cfg.val (c : Cfg) : Value := .agg #[.int .i64 c.max, .int .i64 c.dflt, .int .i64 c.prune, .int .i64 c.grid, .int .i64 c.tuple, .int .i64 c.binth, .int .i64 c.depth]
abbrev RowRT (h : Hp) (A : Option Addr) (c : Nat) (xs : List Rul) : Prop := Row h 75 Rul.enc 12 A c xs
/-- A table at block b: its configuration and its rules; S: the blocks that are its own. -/
def TabAt (h : Hp) (b : Nat) (S : Nat → Prop) (cf : Cfg) (xs : List Rul) : Prop :=
  S b ∧ (∀ k, S k → k < h.size) ∧ ∃ A c, h[b]? = some (.cells (cf.enc ++ [Value.slice A xs.length c]).toArray 109 (0, 0)) ∧ RowRT h A c xs ∧ (∀ k, blk A k → S k) ∧ ¬ blk A b
theorem TabAt.keep {h h' : Hp} {b : Nat} {S S' : Nat → Prop} {cf : Cfg} {xs : List Rul} (t : TabAt h b S cf xs) (f : Fr S' h h') (hn : ∀ k, S k → ¬ S' k) : TabAt h' b S cf xs := by
  obtain ⟨h1, h2, A, c, hb, hr, hS, hne⟩ := t
  exact ⟨h1, fun k hk => Nat.lt_of_lt_of_le (h2 k hk) f.size, A, c, f.get hb (hn b h1), hr.keep f (fun k hk => hn k (hS k hk)), hS, hne⟩
theorem TabAt.ext {h h' : Hp} {b : Nat} {S : Nat → Prop} {cf : Cfg} {xs : List Rul} (t : TabAt h b S cf xs) (e : Ext h h') : TabAt h' b S cf xs := t.keep (e.fr (fun _ => False)) (fun _ _ h => h)
theorem ld_rules {h : Hp} {b : Nat} {cf : Cfg} {A : Option Addr} {n c : Nat} (hb : h[b]? = some (.cells (cf.enc ++ [Value.slice A n c]).toArray 109 (0, 0))) : HV Tryz.prog (Instr.loadAt 22 (.pointer (some ((⟨b, 0, none⟩ : Addr).add 7)))) h (.slice A n c) :=
  ld (by rw [add_eq0, cell_of hb]; rfl) (by kernel_rfl)
theorem st_rules {h : Hp} {b : Nat} {cf : Cfg} {A A' : Option Addr} {n c n' c' : Nat} {K : Hp → Prop} (hb : h[b]? = some (.cells (cf.enc ++ [Value.slice A n c]).toArray 109 (0, 0)))
    (H : ∀ h', h'[b]? = some (.cells (cf.enc ++ [Value.slice A' n' c']).toArray 109 (0, 0)) → Fr (fun k => k = b) h h' → h'.size = h.size → K h') : HU Tryz.prog (Instr.storeAt 22 (.pointer (some ((⟨b, 0, none⟩ : Addr).add 7))) (.slice A' n' c')) h K := by
  rw [add_eq0]
  refine HU_st (us := [Value.slice A' n' c']) hb rfl (by kernel_rfl) (by simp [Cfg.enc]) rfl ?_
  have e : (cf.enc ++ [Value.slice A n c]).take 7 ++ [Value.slice A' n' c'] ++ (cf.enc ++ [Value.slice A n c]).drop (7 + [Value.slice A' n' c'].length) = cf.enc ++ [Value.slice A' n' c'] := rfl
  rw [e]
  exact H _ (setB_get (lt_of_get hb)) (setB_fr rfl) setB_size
def zRul : Rul := ⟨0, 0, 0, 0, 0, 0, 0, 0, 0, 0, 0, 0⟩
theorem take_drop_set {α : Type} (xs : List α) (z r : α) (p : Nat) (hp : p ≤ xs.length) :
    ((xs ++ [z]).take (p + 1) ++ ((xs ++ [z]).drop p).take (xs.length - p) ++ (xs ++ [z]).drop (p + 1 + (xs.length - p))).set p r = xs.take p ++ r :: xs.drop p := by
  have h1 : (xs ++ [z]).drop (p + 1 + (xs.length - p)) = [] := List.drop_of_length_le (by simp; omega)
  have h2 : ((xs ++ [z]).drop p).take (xs.length - p) = xs.drop p := by
    rw [List.drop_append_of_le_length hp, List.take_append_of_le_length (by simp)]
    rw [List.take_of_length_le (by simp)]
  rw [h1, h2, List.append_nil]
  have h3 : ((xs ++ [z]).take (p + 1)).length = p + 1 := by simp; omega
  rw [List.set_append_left _ _ (by omega), List.set_eq_take_append_cons_drop, if_pos (by omega)]
  rw [List.take_take, Nat.min_eq_left (by omega), List.drop_of_length_le (l := (xs ++ [z]).take (p + 1)) (by omega), List.take_append_of_le_length hp]
  simp
theorem TabAt.rules {h : Hp} {b : Nat} {S : Nat → Prop} {cf : Cfg} {xs : List Rul} (t : TabAt h b S cf xs) : ∃ A c, h[b]? = some (.cells (cf.enc ++ [Value.slice A xs.length c]).toArray 109 (0, 0)) ∧ RSl h A xs.length 12 (xs.flatMap Rul.enc) := by
  obtain ⟨_, _, A, c, hb, hr, _⟩ := t
  exact ⟨A, c, hb, hr.read⟩
/-- What Insert says to a rule. -/
def takesI (xs : List Rul) (r : Rul) : Int := if r.check.1 ≠ 0 then r.check.1 else if findI xs r.id ≥ 0 then 111 else 0
theorem table_takes_s {p : Option Addr} {h : Hp} {A : Option Addr} {l c : Nat} {xs : List Rul} (rs : RSl h A l 12 (xs.flatMap Rul.enc)) (hl : xs.length = l) (hlen : l < 2 ^ 62) (r : Rul) {K : Value → Hp → Prop}
    (H : ∀ v h', Ext h h' → v = takesI xs r → K (.int .i64 v) h') : CallsH Tryz.prog 35 #[.pointer p, .slice A l c, r.val] h K := by
  refine table_Table_takes_ok _ _ _ _ _ _ _ _ _ _ _ _ _ _ _ _ ?_
  unfold table_Table_takes
  refine newC_i fun h1 e1 c1 b1 z1 => ?_
  refine ⟨_, _, _, _, _, _, _, _, _, _, _, _, ldS c1 (by kernel_rfl), ?_⟩
  refine rule_Check_s r (fun e i h2 e2 he => ?_)
  refine ⟨_, _, rfl, ?_⟩
  have he1 : e = r.check.1 := by rw [← he]
  refine br_i (fun hc => ?_) (fun hc => ?_)
  · refine H _ _ (e1.trans e2) ?_
    rw [takesI, if_pos (by rw [← he1]; simpa using hc)]; exact he1
  · have hz : r.check.1 = 0 := by rw [← he1]; simpa using hc
    refine ⟨_, ld (Cl.head (c1.ext e2)) (by kernel_rfl), ?_⟩
    refine table_find_s (rs.ext (e1.trans e2)) hl r.id hlen ?_
    refine ⟨_, rfl, ?_⟩
    refine br_i (fun hd => ?_) (fun hd => ?_)
    · refine H _ _ (e1.trans e2) ?_
      rw [takesI, if_neg (by simp [hz]), if_pos (by simpa using hd)]
    · refine H _ _ (e1.trans e2) ?_
      rw [takesI, if_neg (by simp [hz]), if_neg (by simpa using hd)]
theorem eq27 : Tryz.prog.underlying 35 = some (.pointer (Tryz.prog.pointee 35)) := by kernel_rfl
theorem ld_max {h : Hp} {b : Nat} {cf : Cfg} {v : Value} (hb : h[b]? = some (.cells (cf.enc ++ [v]).toArray 109 (0, 0))) : HV Tryz.prog (Instr.loadAt 3 (.pointer (some ⟨b, 0, none⟩))) h (.int .i64 cf.max) :=
  ld (by rw [cell_of hb]; rfl) (by kernel_rfl)
/-- Insert: the error's number, and the rules then. -/
def insI (cf : Cfg) (xs : List Rul) (p : Int) (r : Rul) : Int × List Rul :=
  if takesI xs r ≠ 0 then (takesI xs r, xs) else if ¬ (0 ≤ p ∧ p ≤ xs.length) then (112, xs) else if (xs.length : Int) ≥ cf.max then (113, xs) else (0, xs.take p.toNat ++ r :: xs.drop p.toNat)
/-- Delete. -/
def delI (xs : List Rul) (id : Int) : Int × List Rul := if findI xs id < 0 then (114, xs) else (0, xs.take (findI xs id).toNat ++ xs.drop ((findI xs id).toNat + 1))
theorem findI_lt (xs : List Rul) (id : Int) (h : 0 ≤ findI xs id) : ∃ j : Nat, findI xs id = j ∧ ∃ hj : j < xs.length, (xs[j]).id = id := by
  unfold findI at *
  cases hf : xs.findIdx? (fun r => r.id == id) with
  | none => rw [hf] at h; simp at h
  | some j =>
    obtain ⟨hj, h1, _⟩ := List.findIdx?_eq_some_iff_getElem.1 hf
    exact ⟨j, rfl, hj, by simpa using h1⟩
theorem zero55 : zRul.enc = [.int .i64 0, .int .u32 0, .int .i64 0, .int .u32 0, .int .i64 0, .int .u16 0, .int .u16 0, .int .u16 0, .int .u16 0, .int .u8 0, .int .u8 0, .int .i64 0] := rfl
theorem table_Rules_s {h : Hp} {b : Nat} {S : Nat → Prop} {cf : Cfg} {xs : List Rul} (t : TabAt h b S cf xs) (hlen : xs.length ≤ 1000000) {K : Value → Hp → Prop}
    (H : ∀ h', Ext h h' → RowRT h' (some ⟨h.size, 0, none⟩) xs.length xs → K (.slice (some ⟨h.size, 0, none⟩) xs.length xs.length) h') : CallsH Tryz.prog 13 #[.pointer (some ⟨b, 0, none⟩)] h K := by
  obtain ⟨i, z, hi, hisz, hiby, hiz, hzc⟩ := info55
  refine table_Table_Rules_ok _ ?_
  unfold table_Table_Rules
  refine ⟨_, eqNil eq27, br_f rfl ?_⟩
  obtain ⟨A, c, hb, hr⟩ := t.rules
  refine ⟨_, _, _, ld_rules hb, ?_⟩
  refine HW_makeRow (enc := Rul.enc) (zr := zRul) und32 hi hiz hisz (by omega) (by rw [hzc]; rfl) Rul.enc_len (by rw [hiby]; omega) (by omega) ?_
  intro h1 e1 r1
  refine ⟨_, _, _, rfl, ?_⟩
  obtain ⟨A1, c1, hb1, hr1⟩ := (t.ext e1).rules
  refine ⟨_, _, _, ld_rules hb1, ?_⟩
  have hl : (List.replicate xs.length zRul).length = xs.length := by simp
  rw [show HW Tryz.prog (Builtin.copy_ #[22, 22] 3 #[.slice (some ⟨h.size, 0, none⟩) xs.length xs.length, .slice A1 xs.length c1]) h1 = HW Tryz.prog (Builtin.copy_ #[22, 22] 3 #[.slice (some ⟨h.size, 0, none⟩) (List.replicate xs.length zRul).length xs.length, .slice A1 xs.length c1]) h1 by rw [hl]]
  refine HW_copyFrom (enc := Rul.enc) Rul.enc_len Rul.flatT und32 hi hisz r1 hl hr1 ?_
  intro h2 r2 f2 z2
  refine ⟨_, rfl, ?_⟩
  refine H h2 ⟨?_, fun k hk => ?_⟩ r2
  · have := e1.size; omega
  · rw [f2.keep k (by have := e1.size; omega) (by rintro ⟨a, ha, hk'⟩; injection ha with ha; subst ha; simp at hk'; omega), e1.old k hk]
def matchI (d : Int) (g : Hdr) : List Rul → Nat → (Bool × Int × Int) × Int
  | [], _ => ((false, 0, d), -1)
  | r :: rs, i => if r.has g then ((true, r.id, r.act), i) else matchI d g rs (i + 1)
def verd (v : Bool × Int × Int) : List Value := [.bool v.1, .int .i64 v.2.1, .int .i64 v.2.2]
def inB (n a b : Int) : Bool := decide (n ≥ a) && decide (n ≤ b)
def Cfg.ok (c : Cfg) : Bool := inB c.max 1 64 && inB c.dflt 1 4 && inB c.binth 1 16 && inB c.depth 0 10 && inB c.prune 0 1048576 && inB c.grid 0 1048576 && inB c.tuple 0 1048576
def Cfg.check (c : Cfg) : Int := if c.ok then 0 else 110
theorem tcheck_l3 (x0 x1 x2 : Int) {K0 : Bool → Hp → Prop} {h : Hp} (q : Bool) : ∀ (n k : Nat) (b : Bool), n ≤ 3 → 3 - n < k → (b && ([x0, x1, x2].drop n).all (fun x => inB x 0 1048576)) = q → K0 q h → table_Check_l3 x0 x1 x2 K0 k b n h := by
  intro n k
  induction k generalizing n with
  | zero => intro b _ h; omega
  | succ k ih =>
    intro b hn hk hq HK
    unfold table_Check_l3
    refine br_i (fun c => ?_) (fun c => ?_)
    · have hlt : n < 3 := by simp at c; omega
      obtain ⟨x, hx⟩ : ∃ x, [x0, x1, x2][n]? = some x := ⟨[x0, x1, x2][n]'(by simpa using hlt), by simp [hlt]⟩
      have hd : [x0, x1, x2].drop n = x :: [x0, x1, x2].drop (n + 1) := by
        rw [List.drop_eq_getElem_cons (by simpa using hlt)]
        congr 1
        rw [List.getElem?_eq_getElem (by simpa using hlt)] at hx
        exact Option.some.inj hx
      rw [hd, List.all_cons] at hq
      refine ⟨x, ?_, ?_⟩
      · intro w
        have : n = 0 ∨ n = 1 ∨ n = 2 := by omega
        rcases this with rfl | rfl | rfl <;> simp at hx <;> subst hx <;> exact pureRun_run Tryz.prog _ _ (by kernel_rfl) w
      · rw [wrap_in (by omega) (by omega)]
        refine br_i (fun c => ?_) (fun c => ?_)
        · refine table_in_s _ _ _ ⟨_, rfl, ?_⟩
          exact ih (n + 1) _ (by omega) (by omega) (by subst c; rw [← hq]; simp [inB]) HK
        · exact ih (n + 1) _ (by omega) (by omega) (by subst c; rw [← hq]; simp) HK
    · have hn3 : n = 3 := by simp at c; omega
      subst hn3
      have : b = q := by simpa using hq
      rw [this]; exact HK
theorem table_Check_s (cf : Cfg) {h : Hp} {K : Value → Hp → Prop} (H : ∀ v h', Ext h h' → v = cf.check → K (.int .i64 v) h') : CallsH Tryz.prog 34 #[cf.val] h K := by
  refine table_Check_ok _ _ _ _ _ _ _ ?_
  unfold table_Check table_Check_j2
  repeat' (first
    | (refine table_in_s _ _ _ ?_)
    | (refine tcheck_l3 _ _ _ cf.ok 0 4 _ (by omega) (by omega) ?_ ?_)
    | (refine H _ _ (by first | first | assumption | exact Ext.refl _ | exact Ext.trans2 (by assumption) (by first | first | assumption | exact Ext.refl _ | exact Ext.trans2 (by assumption) (by first | first | assumption | exact Ext.refl _ | exact Ext.trans2 (by assumption) (by first | first | assumption | exact Ext.refl _ | exact Ext.trans2 (by assumption) (by first | first | assumption | exact Ext.refl _ | exact Ext.trans2 (by assumption) (by first | first | assumption | exact Ext.refl _ | exact Ext.trans2 (by assumption) (by first | first | assumption | exact Ext.refl _ | exact Ext.trans2 (by assumption) (by first | first | assumption | exact Ext.refl _ | exact Ext.trans2 (by assumption) (by first | first | assumption | exact Ext.refl _ | exact Ext.trans2 (by assumption) (by first | assumption | exact Ext.refl _)))))))))) ?_)
    | (refine newC_i fun _ _ _ _ _ => ?_)
    | (refine br_i (fun _ => ?_) (fun _ => ?_))
    | (refine And.intro rfl ?_)
    | (refine And.intro (ld (Cl.at_ (by first | assumption | exact Cl.ext2 (by assumption) (by first | assumption | exact Cl.ext2 (by assumption) (by first | assumption | exact Cl.ext2 (by assumption) (by first | assumption | exact Cl.ext2 (by assumption) (by first | assumption | exact Cl.ext2 (by assumption) (by first | assumption | exact Cl.ext2 (by assumption) (by first | assumption | exact Cl.ext2 (by assumption) (by first | assumption | exact Cl.ext2 (by assumption) (by first | assumption | exact Cl.ext2 (by assumption) (by assumption)))))))))) _ _ rfl) (by kernel_rfl)) ?_)
    | (refine And.intro (ld (Cl.head (by first | assumption | exact Cl.ext2 (by assumption) (by first | assumption | exact Cl.ext2 (by assumption) (by first | assumption | exact Cl.ext2 (by assumption) (by first | assumption | exact Cl.ext2 (by assumption) (by first | assumption | exact Cl.ext2 (by assumption) (by first | assumption | exact Cl.ext2 (by assumption) (by first | assumption | exact Cl.ext2 (by assumption) (by first | assumption | exact Cl.ext2 (by assumption) (by first | assumption | exact Cl.ext2 (by assumption) (by assumption))))))))))) (by kernel_rfl)) ?_)
    | (refine And.intro (ldS (by first | assumption | exact Cl.ext2 (by assumption) (by first | assumption | exact Cl.ext2 (by assumption) (by first | assumption | exact Cl.ext2 (by assumption) (by first | assumption | exact Cl.ext2 (by assumption) (by first | assumption | exact Cl.ext2 (by assumption) (by first | assumption | exact Cl.ext2 (by assumption) (by first | assumption | exact Cl.ext2 (by assumption) (by first | assumption | exact Cl.ext2 (by assumption) (by first | assumption | exact Cl.ext2 (by assumption) (by assumption)))))))))) (by kernel_rfl)) ?_)
    | (refine And.intro (ldS (Cl.sl (by first | assumption | exact Cl.ext2 (by assumption) (by first | assumption | exact Cl.ext2 (by assumption) (by first | assumption | exact Cl.ext2 (by assumption) (by first | assumption | exact Cl.ext2 (by assumption) (by first | assumption | exact Cl.ext2 (by assumption) (by first | assumption | exact Cl.ext2 (by assumption) (by first | assumption | exact Cl.ext2 (by assumption) (by first | assumption | exact Cl.ext2 (by assumption) (by first | assumption | exact Cl.ext2 (by assumption) (by assumption)))))))))) rfl) (by kernel_rfl)) ?_)
    | (apply Exists.intro))
  all_goals (simp_all [Cfg.check, Cfg.ok, inB])
  all_goals (intros; first | (simp only [Bool.and_assoc]; done) | omega | (simp_all; omega) | simp_all)
theorem size24 : (Tryz.prog.info? 40).map (·.size) = some 7 := by kernel_rfl
theorem table_New_s (cf : Cfg) {h : Hp} {K : Value → Hp → Prop} (H0 : cf.check ≠ 0 → ∀ h', Ext h h' → K (.tuple #[.pointer none, .int .i64 cf.check]) h')
    (H1 : cf.check = 0 → ∀ h' b, Ext h h' → h.size ≤ b → TabAt h' b (fun k => k = b) cf [] → K (.tuple #[.pointer (some ⟨b, 0, none⟩), .int .i64 0]) h') : CallsH Tryz.prog 9 #[cf.val] h K := by
  refine table_New_ok _ _ _ _ _ _ _ ?_
  unfold table_New
  refine newC_i fun h1 e1 c1 b1 z1 => ?_
  refine ⟨_, _, _, _, _, _, _, ldS c1 (by kernel_rfl), ?_⟩
  refine table_Check_s cf (fun v h2 e2 hv => ?_)
  refine ⟨_, rfl, ?_⟩
  subst hv
  refine br_i (fun hc => ?_) (fun hc => ?_)
  · exact H0 (by simpa using hc) h2 (e1.trans e2)
  · refine ⟨_, _, _, _, _, _, _, ldS (c1.ext e2) (by kernel_rfl), ?_⟩
    refine newC_i fun h3 e3 c3 b3 z3 => ?_
    refine H1 (by simpa using hc) h3 h2.size ((e1.trans e2).trans e3) (e1.trans e2).size ?_
    refine ⟨rfl, fun k hk => by omega, none, 0, b3, .inl ⟨rfl, rfl, rfl, rfl⟩, ?_, ?_⟩
    · rintro k ⟨a, ha, _⟩; cases ha
    · rintro ⟨a, ha, _⟩; cases ha
def atI (xs : List Rul) (p : Int) : Rul × Int := if h : 0 ≤ p ∧ p < xs.length then (xs[p.toNat]'(by omega), 0) else (zRul, 112)
def setI (max : Int) : List Rul → List Rul → Nat → Int
  | _, [], _ => 0
  | seen, r :: rs, i => if takesI seen r ≠ 0 then takesI seen r else if (i : Int) ≥ max then 113 else setI max (seen ++ [r]) rs (i + 1)
theorem table_Set_l {h0 : Hp} {b : Nat} {S : Nat → Prop} {cf : Cfg} {ys : List Rul} (xs : List Rul) {A : Option Addr} {l c : Nat} (hl : xs.length = l) (hlen : l < 2 ^ 62) {K0 : Int → Hp → Prop} {K1 : Option Addr → Option Addr → Nat → Nat → Hp → Prop} (hA : l ≤ c) :
    ∀ (rs : List Rul) (n k : Nat) (h : Hp), xs.drop n = rs → n ≤ l → l - n < k → Ext h0 h → TabAt h b S cf ys → RSl h A l 12 (xs.flatMap Rul.enc) →
      (∀ v h', setI cf.max (xs.take n) rs n = v → v ≠ 0 → Ext h0 h' → K0 v h') → (∀ h', setI cf.max (xs.take n) rs n = 0 → Ext h0 h' → K1 (some ⟨b, 0, none⟩) A l c h') →
      table_Table_Set_l1 (some ⟨b, 0, none⟩) A l c A l c (l : Int) K0 K1 k n h := by
  intro rs
  induction rs with
  | nil =>
    intro n k h hd hn hk he ht hr H0 H1
    obtain ⟨k, rfl⟩ : ∃ m, k = m + 1 := ⟨k - 1, by omega⟩
    have : l ≤ n := by have := congrArg List.length hd; simp at this; omega
    unfold table_Table_Set_l1
    exact br_f (by simp; omega) (H1 h rfl he)
  | cons r rs ih =>
    intro n k h hd hn hk he ht hr H0 H1
    obtain ⟨k, rfl⟩ : ∃ m, k = m + 1 := ⟨k - 1, by omega⟩
    obtain ⟨i, z, hi, hisz, hiby, hiz, hzc⟩ := info55
    have hlt : n < l := by have := congrArg List.length hd; simp at this; omega
    have hget : xs[n]'(by omega) = r := by
      rw [List.drop_eq_getElem_cons (by omega)] at hd
      injection hd
    have hd' : xs.drop (n + 1) = rs := by
      rw [List.drop_eq_getElem_cons (by omega)] at hd
      injection hd
    have htk : xs.take (n + 1) = xs.take n ++ [r] := by rw [List.take_succ_eq_append_getElem (by omega), hget]
    unfold table_Table_Set_l1
    refine br_t (by simp; omega) ?_
    obtain ⟨a, hp, hcl⟩ := rd_elem (c := c) hr hl hlt
    rw [hget] at hcl
    refine ⟨_, hp, ?_⟩
    refine ⟨_, _, _, _, _, _, _, _, _, _, _, _, ldS hcl (by kernel_rfl), ?_⟩
    refine newV (us := r.enc) rfl rfl (by kernel_rfl) rfl fun h1 e1 c1 b1 z1 => ?_
    refine ⟨_, _, _, slHi und32 hi (by omega) (by omega), ?_⟩
    rw [Int.toNat_natCast]
    refine ⟨_, _, _, _, _, _, _, _, _, _, _, _, ldS c1 (by kernel_rfl), ?_⟩
    have hrt : RSl h1 A n 12 ((xs.take n).flatMap Rul.enc) := by
      obtain ⟨a', hA', hcl'⟩ := (hr.ext e1).some (by omega)
      refine ⟨by rw [flat_len Rul.enc_len]; simp; omega, .inr ⟨a', hA', ?_⟩⟩
      refine ⟨hcl'.spot, fun j v hj => hcl'.at_ j v ?_⟩
      rw [← flat_take Rul.enc_len, List.getElem?_take] at hj
      split at hj
      · exact hj
      · cases hj
    refine table_takes_s (xs := xs.take n) hrt (by simp; omega) (by omega) r (fun v h2 e2 hv => ?_)
    refine ⟨_, rfl, ?_⟩
    have e12 := e1.trans e2
    refine br_i (fun hc => ?_) (fun hc => ?_)
    · exact H0 v h2 (by rw [setI, if_pos (by rw [← hv]; simpa using hc)]; exact hv.symm) (by simpa using hc) (he.trans e12)
    · have hz : takesI (xs.take n) r = 0 := by rw [← hv]; simpa using hc
      obtain ⟨A', c', hb', _⟩ := (ht.ext e12).rules
      refine ⟨_, ld_max hb', ?_⟩
      refine br_i (fun hd => ?_) (fun hd => ?_)
      · exact H0 113 h2 (by rw [setI, if_neg (by simp [hz]), if_pos (by simpa using hd)]) (by simp) (he.trans e12)
      · have hno : setI cf.max (xs.take n) (r :: rs) n = setI cf.max (xs.take (n + 1)) rs (n + 1) := by rw [setI, if_neg (by simp [hz]), if_neg (by simpa using hd), htk]
        rw [hno] at H0 H1
        rw [wrap_in (by omega) (by omega)]
        exact ih (n + 1) k h2 hd' (by omega) (by omega) (he.trans e12) (ht.ext e12) (hr.ext e12) H0 H1
theorem table_Set_s {h : Hp} {b : Nat} {S : Nat → Prop} {cf : Cfg} {ys xs : List Rul} (t : TabAt h b S cf ys) {A : Option Addr} {l c : Nat} (hl : xs.length = l) (hlen : l ≤ 1000000) (hc : l ≤ c) (hr : RSl h A l 12 (xs.flatMap Rul.enc)) (hrS : 0 < l → ∀ a, A = some a → ¬ S a.block) {K : Value → Hp → Prop}
    (H : ∀ h' S', TabAt h' b S' cf (if setI cf.max [] xs 0 = 0 then xs else ys) → (∀ k, S' k → S k ∨ h.size ≤ k) → Fr S h h' → K (.int .i64 (setI cf.max [] xs 0)) h') : CallsH Tryz.prog 11 #[.pointer (some ⟨b, 0, none⟩), .slice A l c] h K := by
  obtain ⟨i, z, hi, hisz, hiby, hiz, hzc⟩ := info55
  refine table_Table_Set_ok _ _ _ _ ?_
  unfold table_Table_Set
  refine ⟨_, eqNil eq27, br_f rfl ?_⟩
  refine ⟨l + 1, ?_⟩
  refine table_Set_l (h0 := h) (ys := ys) (S := S) (cf := cf) xs hl (by omega) hc xs 0 (l + 1) h rfl (by omega) (by omega) (Ext.refl _) t hr ?_ ?_
  · intro v h' hv hne he
    simp only [List.take_zero] at hv
    rw [hv, if_neg hne] at H
    exact H h' S (t.ext he) (fun k hk => .inl hk) (he.fr S)
  · intro h1 hv he
    simp only [List.take_zero] at hv
    rw [hv, if_pos rfl] at H
    refine HW_makeRow (enc := Rul.enc) (zr := zRul) und32 hi hiz hisz (by omega) (by rw [hzc]; rfl) Rul.enc_len (by rw [hiby]; omega) (by omega) ?_
    intro h2 e2 r2
    refine ⟨_, _, _, rfl, ?_⟩
    obtain ⟨hSb, hSl, A0, c0, hb0, hr0, hSA, hne⟩ := t
    have e02 := he.trans e2
    have hb2 := (e02.fr (fun _ => False)).get hb0 (fun h => h)
    refine st_rules hb2 fun h3 hb3 f3 z3 => ?_
    have hbl : b < h.size := lt_of_get hb0
    have hs1 := he.size
    have r3 := r2.keep f3 (by rintro k ⟨a, ha, hk⟩ rfl; injection ha with ha; subst ha; simp at hk; omega)
    have hr3 : RSl h3 A l 12 (xs.flatMap Rul.enc) := by
      obtain ⟨q1, q2⟩ := hr.ext e02
      refine ⟨q1, ?_⟩
      rcases q2 with q2 | ⟨a, ha, hcl⟩
      · exact .inl q2
      · rcases Nat.eq_zero_or_pos l with hz | hz
        · exact .inl hz
        · exact .inr ⟨a, ha, f3.cl hcl (fun hab => hrS hz a ha (hab ▸ hSb))⟩
    refine ⟨_, _, _, ld_rules hb3, ?_⟩
    subst hl
    have hrl : (List.replicate xs.length zRul).length = xs.length := by simp
    rw [show HW Tryz.prog (Builtin.copy_ #[22, 22] 3 #[.slice (some ⟨h1.size, 0, none⟩) xs.length xs.length, .slice A xs.length c]) h3 = HW Tryz.prog (Builtin.copy_ #[22, 22] 3 #[.slice (some ⟨h1.size, 0, none⟩) (List.replicate xs.length zRul).length xs.length, .slice A xs.length c]) h3 by rw [hrl]]
    refine HW_copyFrom (enc := Rul.enc) Rul.enc_len Rul.flatT und32 hi hisz r3 hrl hr3 ?_
    intro h4 r4 f4 z4
    refine ⟨_, rfl, ?_⟩
    have hb4 := f4.get hb3 (by rintro ⟨a, ha, hk⟩; injection ha with ha; subst ha; simp at hk; omega)
    have h1l : h1.size < h4.size := by
      have : h1.size < h2.size := by
        rcases r2 with ⟨h, _⟩ | ⟨g, rest, hA, hg, _⟩
        · cases h
        · injection hA with hA; injection hA with hA; rw [hA]; exact lt_of_get hg
      have := f3.size; have := f4.size; omega
    have q : Fr S h h4 := ((e02.fr S).then_ f3 (fun k hk => .inl (hk ▸ hSb))).then_ f4 (by rintro k ⟨a, ha, hk⟩; injection ha with ha; subst ha; simp at hk; exact .inr (by omega))
    refine H h4 (fun k => S k ∨ k = h1.size) ⟨.inl hSb, fun k hk => ?_, some ⟨h1.size, 0, none⟩, xs.length, hb4, r4, ?_, ?_⟩ (fun k hk => hk.imp id (fun h => by omega)) q
    · rcases hk with hk | hk
      · exact Nat.lt_of_lt_of_le (hSl k hk) q.size
      · omega
    · rintro k ⟨a, ha, hk⟩; injection ha with ha; subst ha; exact .inr hk.symm
    · rintro ⟨a, ha, hk⟩; injection ha with ha; subst ha; simp at hk; omega
end Go.Proofs.YtfdpccbajaiepaaGreatDoor.Fs

/- The table's Match (out of the chapter on tables, by names). -/
namespace Go.Proofs.YtfdpccbajaiepaaGreatDoor.Fs
open Go Go.RowKit Go.Proofs.YtfdpccbajaiepaaGreatDoor.Sx Go.Proofs.YtfdpccbajaiepaaGreatDoor.Sxp.Fx
set_option linter.unusedVariables false
set_option linter.unusedSimpArgs false
set_option maxRecDepth 10000
theorem size40 : (Tryz.prog.info? 104).map (·.size) = some 3 := by kernel_rfl
theorem match_l1 {A : Option Addr} {l c : Nat} {p : Option Addr} {xs : List Rul} (hl : xs.length = l) (g : Hdr) (d : Int) (hlen : l < 2 ^ 62) (ga gb : Nat) {K0 : Addr → Int → Hp → Prop} {K1 : Option Addr → Addr → Hp → Prop} {h0 : Hp} (hgb : h0.size ≤ gb) :
    ∀ (rs : List Rul) (n k : Nat) (h : Hp), xs.drop n = rs → n ≤ l → l - n < k → Ext h0 h → RSl h A l 12 (xs.flatMap Rul.enc) → Cl h ⟨ga, 0, none⟩ g.enc → h[gb]? = some (.cells (verd (false, 0, 0)).toArray 104 (0, 0)) →
      (∀ (i : Int) (h' : Hp) (v : Bool × Int × Int), matchI d g rs n = (v, i) → v.1 = true → Ext h0 h' → Cl h' ⟨gb, 0, none⟩ (verd v) → K0 ⟨gb, 0, none⟩ i h') →
      (∀ h', matchI d g rs n = ((false, 0, d), -1) → Ext h0 h' → h'[gb]? = some (.cells (verd (false, 0, 0)).toArray 104 (0, 0)) → K1 p ⟨gb, 0, none⟩ h') →
      table_Table_Match_l1 p ⟨ga, 0, none⟩ ⟨gb, 0, none⟩ A l c (l : Int) K0 K1 k n h := by
  intro rs
  induction rs with
  | nil =>
    intro n k h hd hn hk he hr hg hb H0 H1
    obtain ⟨k, rfl⟩ : ∃ m, k = m + 1 := ⟨k - 1, by omega⟩
    have : l ≤ n := by have := congrArg List.length hd; simp at this; omega
    unfold table_Table_Match_l1
    exact br_f (by simp; omega) (H1 h rfl he hb)
  | cons r rs ih =>
    intro n k h hd hn hk he hr hg hb H0 H1
    obtain ⟨k, rfl⟩ : ∃ m, k = m + 1 := ⟨k - 1, by omega⟩
    have hlt : n < l := by have := congrArg List.length hd; simp at this; omega
    have hget : xs[n]'(by omega) = r := by
      rw [List.drop_eq_getElem_cons (by omega)] at hd
      injection hd
    have hd' : xs.drop (n + 1) = rs := by
      rw [List.drop_eq_getElem_cons (by omega)] at hd
      injection hd
    unfold table_Table_Match_l1
    refine br_t (by simp; omega) ?_
    obtain ⟨a, hp, hcl⟩ := rd_elem (c := c) hr hl hlt
    rw [hget] at hcl
    refine ⟨_, hp, ?_⟩
    refine ⟨_, _, _, _, _, _, _, _, _, _, _, _, ldS hcl (by kernel_rfl), ?_⟩
    refine newV (us := r.enc) rfl rfl (by kernel_rfl) rfl fun h1 e1 c1 b1 z1 => ?_
    refine ⟨_, _, _, _, _, _, _, _, _, _, _, _, ldS c1 (by kernel_rfl), ?_⟩
    refine ⟨_, _, _, _, _, ldS (hg.ext e1) (by kernel_rfl), ?_⟩
    refine rule_Match_s r g (fun v h2 e2 hv => ?_)
    refine ⟨_, rfl, ?_⟩
    have hgbh : gb < h.size := lt_of_get hb
    have e12 := e1.trans e2
    have hb2 := (e12.fr (fun _ => False)).get hb (fun h => h)
    refine br_i (fun hc => ?_) (fun hc => ?_)
    · refine ⟨_, ld (Cl.head (c1.ext e2)) (by kernel_rfl), ?_⟩
      refine ⟨_, ld ((c1.ext e2).at_ 11 _ rfl) (by kernel_rfl), ?_⟩
      refine HU_box (us := verd (true, r.id, r.act)) hb2 rfl rfl size40 rfl fun h3 c3 b3 f3 z3 => ?_
      refine H0 n h3 (true, r.id, r.act) (by rw [matchI, if_pos (by rw [← hv]; exact hc)]) rfl ⟨?_, fun q hq => ?_⟩ c3
      · have := he.size; have := e12.size; omega
      · rw [f3.keep q (by have := he.size; have := e12.size; omega) (by omega), e12.old q (by have := he.size; omega), he.old q hq]
    · have hno : matchI d g (r :: rs) n = matchI d g rs (n + 1) := by rw [matchI, if_neg (by rw [← hv, hc]; simp)]
      rw [wrap_in (by omega) (by omega)]
      rw [hno] at H0 H1
      exact ih (n + 1) k h2 hd' (by omega) (by omega) (he.trans e12) (hr.ext e12) (hg.ext e12) hb2 H0 H1
theorem table_Match_s {h : Hp} {b : Nat} {S : Nat → Prop} {cf : Cfg} {xs : List Rul} (t : TabAt h b S cf xs) (g : Hdr) (hlen : xs.length ≤ 1000000) {K : Value → Hp → Prop}
    (H : ∀ h' v i, Ext h h' → matchI cf.dflt g xs 0 = (v, i) → K (.tuple #[.agg (verd v).toArray, .int .i64 i]) h') : CallsH Tryz.prog 33 #[.pointer (some ⟨b, 0, none⟩), g.val] h K := by
  refine table_Table_Match_ok _ _ _ _ _ _ ?_
  unfold table_Table_Match
  refine newC_i fun h1 e1 c1 b1 z1 => ?_
  refine newC_i fun h2 e2 c2 b2 z2 => ?_
  refine ⟨_, eqNil eq27, br_f rfl ?_⟩
  have e12 := e1.trans e2
  obtain ⟨A, c, hb, hr⟩ := (t.ext e12).rules
  refine ⟨_, _, _, ld_rules hb, ?_⟩
  refine ⟨xs.length + 1, ?_⟩
  refine match_l1 (h0 := h) rfl g cf.dflt (by omega) h.size h1.size e1.size xs 0 (xs.length + 1) h2 rfl (by omega) (by omega) e12 hr (c1.ext e2) b2 ?_ ?_
  · intro i h' v hm hv he hcl
    refine ⟨_, _, _, ldS hcl (by kernel_rfl), ?_⟩
    exact H h' v i he hm
  · intro h' hm he hb'
    have tb := t.ext he
    obtain ⟨A', c', hbb, _⟩ := tb.rules
    refine ⟨_, ld (a := (⟨b, 0, none⟩ : Addr).add 1) (by rw [add_eq0, cell_of hbb]; rfl) (by kernel_rfl), ?_⟩
    refine HU_box (us := verd (false, 0, cf.dflt)) hb' rfl rfl size40 rfl fun h3 c3 b3 f3 z3 => ?_
    refine ⟨_, _, _, ldS c3 (by kernel_rfl), ?_⟩
    refine H h3 (false, 0, cf.dflt) (-1) ⟨?_, fun q hq => ?_⟩ hm
    · have := he.size; omega
    · rw [f3.keep q (by have := he.size; omega) (by have := e1.size; omega), he.old q hq]
end Go.Proofs.YtfdpccbajaiepaaGreatDoor.Fs
