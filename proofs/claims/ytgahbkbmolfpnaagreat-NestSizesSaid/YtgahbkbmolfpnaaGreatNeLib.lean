/- The library's small functions, spans, rows of whole numbers. -/
import Derived.Test.YtgahbkbmolfpnaaGreatFsA
import Derived.Test.YtgahbkbmolfpnaaGreatFsL
import Derived.Test.YtgahbkbmolfpnaaGreatSxSort1
import Derived.Test.YtgahbkbmolfpnaaGreatSxFunc
import Derived.Test.YtgahbkbmolfpnaaGreatShelf
import Derived.Test.YtgahbkbmolfpnaaGreatNePure2
namespace Go.Proofs.YtgahbkbmolfpnaaGreat.Fs
open Go Go.RowKit Go.Proofs.YtgahbkbmolfpnaaGreat.Sx Go.Proofs.YtgahbkbmolfpnaaGreat.Sp
set_option linter.unusedVariables false
set_option linter.unusedSimpArgs false
set_option maxRecDepth 10000
abbrev RowP (h : Hp) (A : Option Addr) (c : Nat) (l : List Sp) : Prop := RowC h 36 Sp.enc 2 A c l
theorem RowP.nil (h : Hp) : RowP h none 0 [] := RowC.nil
theorem size_sp : (Tryz.prog.info? 36).map (·.size) = some 2 := by kernel_rfl
theorem und_sps : Tryz.prog.underlying 37 = some (.slice 36) := by kernel_rfl
theorem info_sp : ∃ i z, Tryz.prog.info? 36 = some i ∧ i.size = 2 ∧ i.bytes = 4 ∧ i.zero = some z ∧ z.cells = (Sp.enc ⟨0, 0⟩).toArray := ⟨_, _, rfl, rfl, rfl, rfl, rfl⟩
theorem app_spF {h0 h : Hp} {A : Option Addr} {c cx : Nat} {ax : Addr} {l : List Sp} {x : Sp} {K : Value → Hp → Prop} (e : Ext h0 h) (r : RowP h A c l) (hF : Fresh h0 A) (hx : Cl h ax x.enc) (hl : l.length ≤ 1000000000)
    (H : ∀ h' A' c', Ext h0 h' → RowP h' A' c' (l ++ [x]) → Fresh h0 A' → Fr (blk A) h h' → K (.slice A' (l ++ [x]).length c') h') :
    HW Tryz.prog (Builtin.append_ #[37, 37] 37 #[.slice A l.length c, .slice (some ax) 1 cx]) h K := by
  obtain ⟨i, z, hi, hs, hb, hz, hc⟩ := info_sp
  exact appF (z := z) Sp.len Sp.flat und_sps hi hz (by rw [hc]; rfl) hs (by omega) (by omega) e r hF hx hl H
def hasS (s : Sp) (p : Int) : Bool := decide (s.lo ≤ p) && decide (p ≤ s.hi)
theorem span_Has_s (s : Sp) (p : Int) {h : Hp} {K : Value → Hp → Prop} (H : ∀ h', Ext h h' → K (.bool (hasS s p)) h') : CallsH Tryz.prog 39 #[s.val, .int .u16 p] h K := by
  refine span_Has_ok _ _ _ ?_
  unfold span_Has
  refine newC_i fun h1 e1 c1 b1 z1 => ?_
  refine ⟨_, ld c1.head (by kernel_rfl), br_i (fun c => ⟨_, ld (c1.at_ 1 _ rfl) (by kernel_rfl), ?_⟩) (fun c => ?_)⟩
  · have e : hasS s p = decide (p ≤ s.hi) := by unfold hasS; rw [show decide (s.lo ≤ p) = true from c]; rfl
    have := H _ e1; rw [e] at this; exact this
  · have e : hasS s p = false := by unfold hasS; rw [show decide (s.lo ≤ p) = false from c]; rfl
    have := H _ e1; rw [e] at this; exact this
def checkS (s : Sp) : Int := if s.lo > s.hi then 30 else 0
theorem span_Check_s (s : Sp) {h : Hp} {K : Value → Hp → Prop} (H : ∀ h', Ext h h' → K (.int .i64 (checkS s)) h') : CallsH Tryz.prog 50 #[s.val] h K := by
  refine span_Check_ok _ _ ?_
  unfold span_Check
  refine newC_i fun h1 e1 c1 b1 z1 => ?_
  have := H _ e1
  unfold checkS at this
  refine ⟨_, ld c1.head (by kernel_rfl), _, ld (c1.at_ 1 _ rfl) (by kernel_rfl), br_i (fun p => ?_) (fun p => ?_)⟩
  · rw [if_pos (by simpa using p)] at this; exact this
  · rw [if_neg (by simpa using p)] at this; exact this
theorem eq_sp (a b : Sp) : PV Tryz.prog (binOp .eql 36 (.agg #[.int .u16 a.lo, .int .u16 a.hi]) (.agg #[.int .u16 b.lo, .int .u16 b.hi])) (.bool (decide (a = b))) := by
  intro w
  rw [run_eql_struct, run_equalIn_struct w 9999 36 _ _ (by kernel_rfl) (by kernel_rfl)]
  obtain ⟨p, q⟩ := a
  obtain ⟨r, s⟩ := b
  simp [go_sem]
  by_cases h0 : p = r <;> by_cases h1 : q = s <;> simp [h0, h1]
theorem ne_sp (a b : Sp) : PV Tryz.prog (binOp .neq 36 (.agg #[.int .u16 a.lo, .int .u16 a.hi]) (.agg #[.int .u16 b.lo, .int .u16 b.hi])) (.bool (!decide (a = b))) := by
  intro w
  rw [run_neq_struct, run_equalIn_struct w 9999 36 _ _ (by kernel_rfl) (by kernel_rfl)]
  obtain ⟨p, q⟩ := a
  obtain ⟨r, s⟩ := b
  simp [go_sem]
  by_cases h0 : p = r <;> by_cases h1 : q = s <;> simp [h0, h1]
theorem w16 {x : Int} (h : 0 ≤ x) (h' : x ≤ 65535) : IntKind.u16.wrap x = x := by simp [IntKind.wrap, IntKind.bits, IntKind.signed]; omega
theorem wrapN {i : Nat} (h : i < 2 ^ 62) : IntKind.i64.wrap ((i : Int) + 1) = ((i + 1 : Nat) : Int) := by rw [wrap_in (by omega) (by omega)]; omega
def encI (x : Int) : List Value := [.int .i64 x]
theorem encI_len (x : Int) : (encI x).length = 1 := rfl
theorem encI_flat (x : Int) : (encI x).all flatV = true := rfl
theorem und_ints : Tryz.prog.underlying 38 = some (.slice 3) := by kernel_rfl
theorem size_int : (Tryz.prog.info? 3).map (·.size) = some 1 := by kernel_rfl
theorem info_int : ∃ i z, Tryz.prog.info? 3 = some i ∧ i.size = 1 ∧ i.bytes = 8 ∧ i.zero = some z ∧ z.cells = (encI 0).toArray := ⟨_, _, rfl, rfl, rfl, rfl, rfl⟩
abbrev RowI (h : Hp) (A : Option Addr) (c : Nat) (l : List Int) : Prop := RowC h 3 encI 1 A c l
def encU (x : Int) : List Value := [.int .u16 x]
theorem encU_len (x : Int) : (encU x).length = 1 := rfl
theorem encU_flat (x : Int) : (encU x).all flatV = true := rfl
theorem und_u16s : Tryz.prog.underlying 86 = some (.slice 24) := by kernel_rfl
theorem size_u16 : (Tryz.prog.info? 24).map (·.size) = some 1 := by kernel_rfl
theorem info_u16 : ∃ i z, Tryz.prog.info? 24 = some i ∧ i.size = 1 ∧ i.bytes = 2 ∧ i.zero = some z ∧ z.cells = (encU 0).toArray := ⟨_, _, rfl, rfl, rfl, rfl, rfl⟩
abbrev RowU (h : Hp) (A : Option Addr) (c : Nat) (l : List Int) : Prop := RowC h 24 encU 1 A c l
theorem make_i {h : Hp} {n : Nat} (hn : n ≤ 1000000000) {K : Value → Hp → Prop} (H : ∀ h', Ext h h' → RowI h' (some ⟨h.size, 0, none⟩) n (List.replicate n 0) → K (.slice (some ⟨h.size, 0, none⟩) n n) h') : HW Tryz.prog (Instr.makeSlice 38 (.int .i64 (n : Int)) (.int .i64 (n : Int))) h K := by
  obtain ⟨i, z, hi, hs, hb, hz, hc⟩ := info_int
  exact HW_makeRow (zr := (0 : Int)) und_ints hi hz hs (by decide) hc encI_len (by rw [hb]; omega) (by omega) fun h' e r => H h' e ⟨r, by omega⟩
theorem st_i {h : Hp} {g c : Nat} {xs : List Int} {j : Nat} (x : Int) {K : Hp → Prop} (r : RowI h (some ⟨g, 0, none⟩) c xs) (hj : j < xs.length) (H : ∀ h', RowI h' (some ⟨g, 0, none⟩) c (xs.set j x) → Fr (fun k => k = g) h h' → h'.size = h.size → K h') : HU Tryz.prog (Instr.storeAt 3 (.pointer (some ⟨g, j * 1, none⟩)) (.int .i64 x)) h K :=
  HU_elem (x := x) encI_len encI_flat r.row hj rfl size_int fun h' r' f z => H h' ⟨r', r.cap⟩ f z
theorem ixI {g l c i : Nat} (h1 : i < l) : PV Tryz.prog (Instr.indexAt 38 (.slice (some ⟨g, 0, none⟩) l c) (.int .i64 (i : Int))) (.pointer (some ⟨g, i * 1, none⟩)) := ix0 h1 und_ints size_int
theorem ld_i {h : Hp} {g c : Nat} {xs : List Int} (r : RowI h (some ⟨g, 0, none⟩) c xs) {i : Nat} {x : Int} (hi : xs[i]? = some x) : HV Tryz.prog (Instr.loadAt 3 (.pointer (some ⟨g, i * 1, none⟩))) h (.int .i64 x) := ld (r.elem0 encI_len hi).head (by kernel_rfl)
/-! ### cmp -/
def cmp3 (x y : Int) : Int := if x < y then -1 else if x > y then 1 else 0
theorem cmpU16_s (x y : Int) {h : Hp} {K : Value → Hp → Prop} (H : K (.int .i64 (cmp3 x y)) h) : CallsH Tryz.prog 57 #[.int .u16 x, .int .u16 y] h K := by
  refine cmp_Compare_uint16_ok _ _ ?_
  unfold cmp_Compare_uint16
  have nan : ∀ z : Int, ∀ K : Value → Hp → Prop, K (.bool false) h → CallsH Tryz.prog 73 #[.int .u16 z] h K := fun z K H => by
    refine cmp_isNaN_uint16_ok _ ?_
    unfold cmp_isNaN_uint16
    simpa using H
  refine nan x _ ⟨_, rfl, nan y _ ⟨_, rfl, br_f rfl (br_f rfl (br_i (fun p => ?_) (fun p => br_i (fun q => ?_) (fun q => ?_))))⟩⟩
  · rw [cmp3, if_pos (by simpa using p)] at H; exact H
  · rw [cmp3, if_neg (by simpa using p), if_pos (by simpa using q)] at H; exact H
  · rw [cmp3, if_neg (by simpa using p), if_neg (by simpa using q)] at H; exact H
theorem cmpU32_s (x y : Int) {h : Hp} {K : Value → Hp → Prop} (H : K (.int .i64 (cmp3 x y)) h) : CallsH Tryz.prog 64 #[.int .u32 x, .int .u32 y] h K := by
  refine cmp_Compare_uint32_ok _ _ ?_
  unfold cmp_Compare_uint32
  have nan : ∀ z : Int, ∀ K : Value → Hp → Prop, K (.bool false) h → CallsH Tryz.prog 86 #[.int .u32 z] h K := fun z K H => by
    refine cmp_isNaN_uint32_ok _ ?_
    unfold cmp_isNaN_uint32
    simpa using H
  refine nan x _ ⟨_, rfl, nan y _ ⟨_, rfl, br_f rfl (br_f rfl (br_i (fun p => ?_) (fun p => br_i (fun q => ?_) (fun q => ?_))))⟩⟩
  · rw [cmp3, if_pos (by simpa using p)] at H; exact H
  · rw [cmp3, if_neg (by simpa using p), if_pos (by simpa using q)] at H; exact H
  · rw [cmp3, if_neg (by simpa using p), if_neg (by simpa using q)] at H; exact H
theorem cmpInt_s (x y : Int) {h : Hp} {K : Value → Hp → Prop} (H : K (.int .i64 (cmp3 x y)) h) : CallsH Tryz.prog 65 #[.int .i64 x, .int .i64 y] h K := by
  refine cmp_Compare_int_ok _ _ ?_
  unfold cmp_Compare_int
  have nan : ∀ z : Int, ∀ K : Value → Hp → Prop, K (.bool false) h → CallsH Tryz.prog 87 #[.int .i64 z] h K := fun z K H => by
    refine cmp_isNaN_int_ok _ ?_
    unfold cmp_isNaN_int
    simpa using H
  refine nan x _ ⟨_, rfl, nan y _ ⟨_, rfl, br_f rfl (br_f rfl (br_i (fun p => ?_) (fun p => br_i (fun q => ?_) (fun q => ?_))))⟩⟩
  · rw [cmp3, if_pos (by simpa using p)] at H; exact H
  · rw [cmp3, if_neg (by simpa using p), if_pos (by simpa using q)] at H; exact H
  · rw [cmp3, if_neg (by simpa using p), if_neg (by simpa using q)] at H; exact H
/-- Of two. -/
def or2 (x y : Int) : Int := if x ≠ 0 then x else if y ≠ 0 then y else 0
theorem or2_s (x y : Int) {a : Addr} {h : Hp} (cl : Cl h a [.int .i64 x, .int .i64 y]) (ha : a.spot = none) {K : Value → Hp → Prop} (H : K (.int .i64 (or2 x y)) h) : CallsH Tryz.prog 56 #[.slice (some a) 2 2] h K := by
  refine cmp_Or_int_ok _ _ _ ?_
  unfold cmp_Or_int
  refine ⟨3, ?_⟩
  unfold cmp_Or_int_l1
  have i0 := ix (P := Tryz.prog) (T := 38) (E := 3) (a := a) (l := 2) (c := 2) (sz := 1) (k := .i64) (i := 0) (by decide) (by decide) und_ints size_int
  have i1 := ix (P := Tryz.prog) (T := 38) (E := 3) (a := a) (l := 2) (c := 2) (sz := 1) (k := .i64) (i := 1) (by decide) (by decide) und_ints size_int
  refine br_t rfl ⟨_, i0, _, ld (cl.at_ 0 _ rfl) (by kernel_rfl), br_i (fun p => ?_) (fun p => ?_)⟩
  · rw [or2, if_pos (by simpa using p)] at H; exact H
  · rw [wrap_in (by decide) (by decide)]
    unfold cmp_Or_int_l1
    refine br_t rfl ⟨_, i1, _, ld (cl.at_ 1 _ rfl) (by kernel_rfl), br_i (fun q => ?_) (fun q => ?_)⟩
    · rw [or2, if_neg (by simpa using p), if_pos (by simpa using q)] at H; exact H
    · rw [wrap_in (by decide) (by decide)]
      unfold cmp_Or_int_l1
      rw [or2, if_neg (by simpa using p), if_neg (by simpa using q)] at H
      exact br_f rfl H
/-! ### the first that is so -/
def idxI {α : Type} (l : List α) (p : α → Bool) : Int := if l.findIdx p < l.length then (l.findIdx p : Int) else -1
theorem idxU_s {h : Hp} {A : Option Addr} {c : Nat} {l : List Int} (r : RSl h A l.length 1 (l.flatMap encU)) (hl : l.length ≤ 1000000000) {f : FuncId} {fc : Array Value} {p : Int → Bool} (hen : enters Tryz.prog f = true)
    (hf : ∀ x ∈ l, ∀ K : Value → Hp → Prop, K (.bool (p x)) h → CallsH Tryz.prog f (#[.int .u16 x] ++ fc) h K) {K : Value → Hp → Prop} (H : K (.int .i64 (idxI l p)) h) : CallsH Tryz.prog 58 #[.slice A l.length c, .func (.func f) #[] fc] h K := by
  refine slices_IndexFunc_uint16_ok _ _ _ _ _ _ ?_
  unfold slices_IndexFunc_uint16
  have key : ∀ (k i : Nat), l.length - i < k → i ≤ l.length → (∀ j, j < i → ∀ x, l[j]? = some x → p x = false) → slices_IndexFunc_uint16_l1 A l.length c (.func (.func f) #[] fc) (l.length : Int) (fun (x18 : Int) (h19 : Hp) => K (.int .i64 x18) h19) (fun h20 => K (.int .i64 (-1)) h20) k i h := by
    intro k
    induction k with
    | zero => intro i hk _ _; omega
    | succ k ih =>
      intro i hk hi hn
      unfold slices_IndexFunc_uint16_l1
      refine br_i (fun q => ?_) (fun q => ?_)
      · have hlt : i < l.length := by simpa using q
        obtain ⟨a, _, _, hix, hcl⟩ := ixR (P := Tryz.prog) (T := 86) (E := 24) (c := c) (k := .i64) encU_len r rfl und_u16s size_u16 (List.getElem?_eq_getElem hlt)
        refine ⟨_, hix, _, ld hcl.head (by kernel_rfl), callF hen (hf _ (List.getElem_mem hlt) _ ⟨_, rfl, br_i (fun u => ?_) (fun u => ?_)⟩)⟩
        · have e : l.findIdx p = i := by
            rw [List.findIdx_eq hlt]
            refine ⟨u, fun j hj => ?_⟩
            have := hn j hj _ (List.getElem?_eq_getElem (by omega))
            simpa using this
          rw [idxI, e, if_pos hlt] at H
          exact H
        · rw [wrapN (by omega)]
          refine ih (i + 1) (by omega) (by omega) fun j hj x hx => ?_
          rcases Nat.lt_or_ge j i with c | c
          · exact hn j c x hx
          · have : j = i := by omega
            subst this
            rw [List.getElem?_eq_getElem hlt] at hx
            cases hx
            exact u
      · have hi' : i = l.length := by simp at q; omega
        have e : ¬ l.findIdx p < l.length := fun hc => by
          have h1 := List.findIdx_getElem (w := hc)
          have := hn _ (by omega) _ (List.getElem?_eq_getElem hc)
          rw [h1] at this
          cases this
        rw [idxI, if_neg e] at H
        exact H
  exact ⟨l.length + 1, key _ 0 (by omega) (by omega) (by omega)⟩
end Go.Proofs.YtgahbkbmolfpnaaGreat.Fs
