/- nest.Prune, and what it stands on (a cut of wip/nest: XNeLib, XNeRul, XNeRul2, XNeSz, for seats without the ports' functions). -/
import Derived.Test.YtomhkbhgpmcbiaaGreatFsA
import Derived.Test.YtomhkbhgpmcbiaaGreatFsL
import Derived.Test.YtomhkbhgpmcbiaaGreatSxSort1
import Derived.Test.YtomhkbhgpmcbiaaGreatSxFunc
import Derived.Test.YtomhkbhgpmcbiaaGreatSxClear
import Derived.Test.YtomhkbhgpmcbiaaGreatShelf
import Derived.Test.YtomhkbhgpmcbiaaGreatRuSpec
import Derived.Test.YtomhkbhgpmcbiaaGreatRuUniq
namespace Go.Proofs.YtomhkbhgpmcbiaaGreat.Fs
open Go Go.RowKit Go.Sort Go.Proofs.YtomhkbhgpmcbiaaGreat.Sx Go.Proofs.YtomhkbhgpmcbiaaGreat.Uq
set_option linter.unusedVariables false
set_option linter.unusedSimpArgs false
set_option maxRecDepth 10000
theorem wrapN {i : Nat} (h : i < 2 ^ 62) : IntKind.i64.wrap ((i : Int) + 1) = ((i + 1 : Nat) : Int) := by rw [wrap_in (by omega) (by omega)]; omega
def encI (x : Int) : List Value := [.int .i64 x]
theorem encI_len (x : Int) : (encI x).length = 1 := rfl
theorem encI_flat (x : Int) : (encI x).all flatV = true := rfl
theorem und_ints : Tryz.prog.underlying 92 = some (.slice 3) := by kernel_rfl
theorem size_int : (Tryz.prog.info? 3).map (·.size) = some 1 := by kernel_rfl
theorem info_int : ∃ i z, Tryz.prog.info? 3 = some i ∧ i.size = 1 ∧ i.bytes = 8 ∧ i.zero = some z ∧ z.cells = (encI 0).toArray := ⟨_, _, rfl, rfl, rfl, rfl, rfl⟩
abbrev RowI (h : Hp) (A : Option Addr) (c : Nat) (l : List Int) : Prop := RowC h 3 encI 1 A c l
theorem make_i {h : Hp} {n : Nat} (hn : n ≤ 1000000000) {K : Value → Hp → Prop} (H : ∀ h', Ext h h' → RowI h' (some ⟨h.size, 0, none⟩) n (List.replicate n 0) → K (.slice (some ⟨h.size, 0, none⟩) n n) h') : HW Tryz.prog (Instr.makeSlice 92 (.int .i64 (n : Int)) (.int .i64 (n : Int))) h K := by
  obtain ⟨i, z, hi, hs, hb, hz, hc⟩ := info_int
  exact HW_makeRow (zr := (0 : Int)) und_ints hi hz hs (by decide) hc encI_len (by rw [hb]; omega) (by omega) fun h' e r => H h' e ⟨r, by omega⟩
theorem st_i {h : Hp} {g c : Nat} {xs : List Int} {j : Nat} (x : Int) {K : Hp → Prop} (r : RowI h (some ⟨g, 0, none⟩) c xs) (hj : j < xs.length) (H : ∀ h', RowI h' (some ⟨g, 0, none⟩) c (xs.set j x) → Fr (fun k => k = g) h h' → h'.size = h.size → K h') : HU Tryz.prog (Instr.storeAt 3 (.pointer (some ⟨g, j * 1, none⟩)) (.int .i64 x)) h K :=
  HU_elem (x := x) encI_len encI_flat r.row hj rfl size_int fun h' r' f z => H h' ⟨r', r.cap⟩ f z
theorem ixI {g l c i : Nat} (h1 : i < l) : PV Tryz.prog (Instr.indexAt 92 (.slice (some ⟨g, 0, none⟩) l c) (.int .i64 (i : Int))) (.pointer (some ⟨g, i * 1, none⟩)) := ix0 h1 und_ints size_int
theorem ld_i {h : Hp} {g c : Nat} {xs : List Int} (r : RowI h (some ⟨g, 0, none⟩) c xs) {i : Nat} {x : Int} (hi : xs[i]? = some x) : HV Tryz.prog (Instr.loadAt 3 (.pointer (some ⟨g, i * 1, none⟩))) h (.int .i64 x) := ld (r.elem0 encI_len hi).head (by kernel_rfl)
/-! ### cmp -/
def cmp3 (x y : Int) : Int := if x < y then -1 else if x > y then 1 else 0
theorem cmpU32_s (x y : Int) {h : Hp} {K : Value → Hp → Prop} (H : K (.int .i64 (cmp3 x y)) h) : CallsH Tryz.prog 95 #[.int .u32 x, .int .u32 y] h K := by
  refine cmp_Compare_uint32_ok _ _ ?_
  unfold cmp_Compare_uint32
  have nan : ∀ z : Int, ∀ K : Value → Hp → Prop, K (.bool false) h → CallsH Tryz.prog 107 #[.int .u32 z] h K := fun z K H => by
    refine cmp_isNaN_uint32_ok _ ?_
    unfold cmp_isNaN_uint32
    simpa using H
  refine nan x _ ⟨_, rfl, nan y _ ⟨_, rfl, br_f rfl (br_f rfl (br_i (fun p => ?_) (fun p => br_i (fun q => ?_) (fun q => ?_))))⟩⟩
  · rw [cmp3, if_pos (by simpa using p)] at H; exact H
  · rw [cmp3, if_neg (by simpa using p), if_pos (by simpa using q)] at H; exact H
  · rw [cmp3, if_neg (by simpa using p), if_neg (by simpa using q)] at H; exact H
theorem cmpInt_s (x y : Int) {h : Hp} {K : Value → Hp → Prop} (H : K (.int .i64 (cmp3 x y)) h) : CallsH Tryz.prog 96 #[.int .i64 x, .int .i64 y] h K := by
  refine cmp_Compare_int_ok _ _ ?_
  unfold cmp_Compare_int
  have nan : ∀ z : Int, ∀ K : Value → Hp → Prop, K (.bool false) h → CallsH Tryz.prog 108 #[.int .i64 z] h K := fun z K H => by
    refine cmp_isNaN_int_ok _ ?_
    unfold cmp_isNaN_int
    simpa using H
  refine nan x _ ⟨_, rfl, nan y _ ⟨_, rfl, br_f rfl (br_f rfl (br_i (fun p => ?_) (fun p => br_i (fun q => ?_) (fun q => ?_))))⟩⟩
  · rw [cmp3, if_pos (by simpa using p)] at H; exact H
  · rw [cmp3, if_neg (by simpa using p), if_pos (by simpa using q)] at H; exact H
  · rw [cmp3, if_neg (by simpa using p), if_neg (by simpa using q)] at H; exact H
/-- Of two. -/
def or2 (x y : Int) : Int := if x ≠ 0 then x else if y ≠ 0 then y else 0
theorem or2_s (x y : Int) {a : Addr} {h : Hp} (cl : Cl h a [.int .i64 x, .int .i64 y]) (ha : a.spot = none) {K : Value → Hp → Prop} (H : K (.int .i64 (or2 x y)) h) : CallsH Tryz.prog 94 #[.slice (some a) 2 2] h K := by
  refine cmp_Or_int_ok _ _ _ ?_
  unfold cmp_Or_int
  refine ⟨3, ?_⟩
  unfold cmp_Or_int_l1
  have i0 := ix (P := Tryz.prog) (T := 92) (E := 3) (a := a) (l := 2) (c := 2) (sz := 1) (k := .i64) (i := 0) (by decide) (by decide) und_ints size_int
  have i1 := ix (P := Tryz.prog) (T := 92) (E := 3) (a := a) (l := 2) (c := 2) (sz := 1) (k := .i64) (i := 1) (by decide) (by decide) und_ints size_int
  refine br_t rfl ⟨_, i0, _, ld (cl.at_ 0 _ rfl) (by kernel_rfl), br_i (fun p => ?_) (fun p => ?_)⟩
  · rw [or2, if_pos (by simpa using p)] at H; exact H
  · rw [wrap_in (by decide) (by decide)]
    unfold cmp_Or_int_l1
    refine br_t rfl ⟨_, i1, _, ld (cl.at_ 1 _ rfl) (by kernel_rfl), br_i (fun q => ?_) (fun q => ?_)⟩
    · rw [or2, if_neg (by simpa using p), if_pos (by simpa using q)] at H; exact H
    · rw [wrap_in (by decide) (by decide)]
      unfold cmp_Or_int_l1
      rw [or2, if_neg (by simpa using p), if_neg (by simpa using q)] at H
      exact br_f rfl H
/-! ### the first that is so -/
theorem enters_calls {g : Nat} {fn : Func} (hf : Tryz.prog.funcs[g]? = some fn) (hb : fn.body.isSome = true) (hn : (fn.name == "runtime.NumGoroutine") = false) : ∀ args w, (callFunc g args).run Tryz.prog w = .ok (.enter g args) w := by
  intro args w
  have h4 : fn.body ≠ none := by intro e; rw [e] at hb; cases hb
  have h5 : fn.name ≠ "runtime.NumGoroutine" := by simpa using hn
  unfold callFunc
  simp [go_sem, hf, h5, h4]
structure Pf where
  addr : Int
  len : Int
  deriving DecidableEq
def Pf.enc (p : Pf) : List Value := [.int .u32 p.addr, .int .i64 p.len]
def Pf.val (p : Pf) : Value := .agg #[.int .u32 p.addr, .int .i64 p.len]
theorem Pf.leng (p : Pf) : p.enc.length = 2 := rfl
theorem Pf.flat (p : Pf) : p.enc.all flatV = true := rfl
abbrev RowF (h : Hp) (A : Option Addr) (c : Nat) (l : List Pf) : Prop := RowC h 45 Pf.enc 2 A c l
theorem size_pf : (Tryz.prog.info? 45).map (·.size) = some 2 := by kernel_rfl
theorem und_pfs : Tryz.prog.underlying 137 = some (.slice 45) := by kernel_rfl
theorem info_pf : ∃ i z, Tryz.prog.info? 45 = some i ∧ i.size = 2 ∧ i.bytes = 16 ∧ i.zero = some z ∧ z.cells = (Pf.enc ⟨0, 0⟩).toArray := ⟨_, _, rfl, rfl, rfl, rfl, rfl⟩
abbrev RowR (h : Hp) (A : Option Addr) (c : Nat) (l : List Rul) : Prop := RowC h 52 Rul.enc 12 A c l
theorem Rul.flat (r : Rul) : r.enc.all flatV = true := rfl
theorem size_ru : (Tryz.prog.info? 52).map (·.size) = some 12 := by kernel_rfl
theorem und_rus : Tryz.prog.underlying 42 = some (.slice 52) := by kernel_rfl
theorem info_ru : ∃ i z, Tryz.prog.info? 52 = some i ∧ i.size = 12 ∧ i.bytes = 64 ∧ i.zero = some z ∧ z.cells = (Rul.enc ⟨0, 0, 0, 0, 0, 0, 0, 0, 0, 0, 0, 0⟩).toArray := ⟨_, _, rfl, rfl, rfl, rfl, rfl⟩
theorem ixRu {h : Hp} {A : Option Addr} {c : Nat} {l : List Rul} (r : RSl h A l.length 12 (l.flatMap Rul.enc)) {i : Nat} {x : Rul} (hi : l[i]? = some x) : ∃ a, PV Tryz.prog (Instr.indexAt 42 (.slice A l.length c) (.int .i64 (i : Int))) (.pointer (some a)) ∧ Cl h a (Rul.enc x) := by
  obtain ⟨a, _, _, hix, hcl⟩ := ixR (P := Tryz.prog) (T := 42) (E := 52) (c := c) (k := .i64) Rul.enc_len r rfl und_rus size_ru hi
  exact ⟨a, hix, hcl⟩
theorem ixPf {h : Hp} {A : Option Addr} {c : Nat} {l : List Pf} (r : RSl h A l.length 2 (l.flatMap Pf.enc)) {i : Nat} {x : Pf} (hi : l[i]? = some x) : ∃ a, PV Tryz.prog (Instr.indexAt 137 (.slice A l.length c) (.int .i64 (i : Int))) (.pointer (some a)) ∧ Cl h a (Pf.enc x) := by
  obtain ⟨a, _, _, hix, hcl⟩ := ixR (P := Tryz.prog) (T := 137) (E := 45) (c := c) (k := .i64) Pf.leng r rfl und_pfs size_pf hi
  exact ⟨a, hix, hcl⟩
def Rul.src (r : Rul) : Pf := ⟨r.sA, r.sL⟩
def Rul.dst (r : Rul) : Pf := ⟨r.dA, r.dL⟩
theorem Rul.cl_src {h : Hp} {a : Addr} {r : Rul} (c : Cl h a r.enc) : Cl h (a.add 1) r.src.enc := c.sub 1 fun j v hj => by
  match j, hj with
  | 0, hj => exact hj
  | 1, hj => exact hj
theorem Rul.cl_dst {h : Hp} {a : Addr} {r : Rul} (c : Cl h a r.enc) : Cl h (a.add 3) r.dst.enc := c.sub 3 fun j v hj => by
  match j, hj with
  | 0, hj => exact hj
  | 1, hj => exact hj
theorem src_s (r : Rul) {h : Hp} {K : Value → Hp → Prop} (H : ∀ h', Ext h h' → K r.src.val h') : CallsH Tryz.prog 81 #[r.val] h K := by
  refine nest_src_ok _ _ _ _ _ _ _ _ _ _ _ _ ?_
  unfold nest_src
  refine newC_i (cs := r.enc) fun h1 e1 c1 b1 z1 => newC_i (cs := Pf.enc ⟨0, 0⟩) fun h2 e2 c2 b2 z2 => ⟨_, _, ldS (Rul.cl_src (c1.ext e2)) (by kernel_rfl), HU_box b2 (us := r.src.enc) rfl rfl size_pf rfl fun h3 c3 b3 f3 z3 => ⟨_, _, ldS c3 (by kernel_rfl), ?_⟩⟩
  exact H h3 (e1.trans (extOwn e2 f3 (by rintro k rfl; exact Nat.le_refl _)))
theorem dst_s (r : Rul) {h : Hp} {K : Value → Hp → Prop} (H : ∀ h', Ext h h' → K r.dst.val h') : CallsH Tryz.prog 83 #[r.val] h K := by
  refine nest_dst_ok _ _ _ _ _ _ _ _ _ _ _ _ ?_
  unfold nest_dst
  refine newC_i (cs := r.enc) fun h1 e1 c1 b1 z1 => newC_i (cs := Pf.enc ⟨0, 0⟩) fun h2 e2 c2 b2 z2 => ⟨_, _, ldS (Rul.cl_dst (c1.ext e2)) (by kernel_rfl), HU_box b2 (us := r.dst.enc) rfl rfl size_pf rfl fun h3 c3 b3 f3 z3 => ⟨_, _, ldS c3 (by kernel_rfl), ?_⟩⟩
  exact H h3 (e1.trans (extOwn e2 f3 (by rintro k rfl; exact Nat.le_refl _)))
def withinB (p q : Pf) : Bool := (prefixCheck p.addr p.len == 0) && decide (q.len ≤ p.len) && prefixHas q.addr q.len p.addr
theorem Within_s (p q : Pf) {h : Hp} {K : Value → Hp → Prop} (H : ∀ h', Ext h h' → K (.bool (withinB p q)) h') : CallsH Tryz.prog 61 #[p.val, q.val] h K := by
  refine prefix_Within_ok _ _ _ _ ?_
  unfold prefix_Within
  refine newC_i (cs := p.enc) fun h1 e1 c1 b1 z1 => newC_i (cs := q.enc) fun h2 e2 c2 b2 z2 => ?_
  refine ⟨_, _, ldS (c1.ext e2) (by kernel_rfl), prefix_Check_s _ _ fun v h3 e3 hv => ⟨_, rfl, ?_⟩⟩
  subst hv
  have c1' := (c1.ext e2).ext e3
  have c2' := c2.ext e3
  have e := (e1.trans e2).trans e3
  refine br_i (fun u => ⟨_, ld (c2'.at_ 1 _ rfl) (by kernel_rfl), _, ld (c1'.at_ 1 _ rfl) (by kernel_rfl), br_i (fun w => ⟨_, _, ldS c2' (by kernel_rfl), _, ld c1'.head (by kernel_rfl), prefix_Has_s _ _ _ fun v h4 e4 hv => ⟨_, rfl, ?_⟩⟩) (fun w => ?_)⟩) (fun u => ?_)
  · subst hv
    have := H h4 (e.trans e4)
    have hb : withinB p q = prefixHas q.addr q.len p.addr := by unfold withinB; rw [u, w]; rfl
    rw [hb] at this; exact this
  · have := H h3 e
    have hb : withinB p q = false := by unfold withinB; rw [u, w]; rfl
    rw [hb] at this; exact this
  · have := H h3 e
    have hb : withinB p q = false := by unfold withinB; rw [u]; rfl
    rw [hb] at this; exact this
def cfP (p q : Pf) : Int := or2 (cmp3 p.addr q.addr) (cmp3 p.len q.len)
theorem Compare_s (p q : Pf) {h : Hp} {K : Value → Hp → Prop} (H : ∀ h', Ext h h' → K (.int .i64 (cfP p q)) h') : CallsH Tryz.prog 89 #[p.val, q.val] h K := by
  refine prefix_Compare_ok _ _ _ _ ?_
  unfold prefix_Compare
  refine newC_i (cs := p.enc) fun h1 e1 c1 b1 z1 => newC_i (cs := q.enc) fun h2 e2 c2 b2 z2 => ?_
  have c1' := c1.ext e2
  have l1 : HV Tryz.prog (Instr.loadAt 3 (.pointer (some (Addr.add ⟨h.size, 0, none⟩ 1)))) h2 (.int .i64 p.len) := ld (c1'.at_ 1 _ rfl) (by kernel_rfl)
  have l2 : HV Tryz.prog (Instr.loadAt 3 (.pointer (some (Addr.add ⟨h1.size, 0, none⟩ 1)))) h2 (.int .i64 q.len) := ld (c2.at_ 1 _ rfl) (by kernel_rfl)
  refine ⟨_, ld c1'.head (by kernel_rfl), _, ld c2.head (by kernel_rfl), cmpU32_s _ _ ⟨_, rfl, _, l1, l1, _, l2, l2, cmpInt_s _ _ ⟨_, rfl, newC_i fun h3 e3 c3 b3 z3 => or2_s _ _ c3 rfl ⟨_, rfl, H h3 ((e1.trans e2).trans e3)⟩⟩⟩⟩
theorem eq_pf (a b : Pf) : PV Tryz.prog (binOp .eql 45 (.agg #[.int .u32 a.addr, .int .i64 a.len]) (.agg #[.int .u32 b.addr, .int .i64 b.len])) (.bool (decide (a = b))) := by
  intro w
  rw [run_eql_struct, run_equalIn_struct w 9999 45 _ _ (by kernel_rfl) (by kernel_rfl)]
  obtain ⟨p, q⟩ := a
  obtain ⟨r, s⟩ := b
  simp [go_sem]
  by_cases h0 : p = r <;> by_cases h1 : q = s <;> simp [h0, h1]
theorem ne_pf (a b : Pf) : PV Tryz.prog (binOp .neq 45 (.agg #[.int .u32 a.addr, .int .i64 a.len]) (.agg #[.int .u32 b.addr, .int .i64 b.len])) (.bool (!decide (a = b))) := by
  intro w
  rw [run_neq_struct, run_equalIn_struct w 9999 45 _ _ (by kernel_rfl) (by kernel_rfl)]
  obtain ⟨p, q⟩ := a
  obtain ⟨r, s⟩ := b
  simp [go_sem]
  by_cases h0 : p = r <;> by_cases h1 : q = s <;> simp [h0, h1]
/-! ### list -/
theorem RSl.take {α : Type} {enc : α → List Value} {sz : Nat} (he : ∀ x, (enc x).length = sz) {h : Hp} {A : Option Addr} {l : List α} (r : RSl h A l.length sz (l.flatMap enc)) (i : Nat) : RSl h A (l.take i).length sz ((l.take i).flatMap enc) := by
  refine ⟨flat_len he _, ?_⟩
  rcases r.2 with h0 | ⟨a, ha, c⟩
  · have : l = [] := List.eq_nil_of_length_eq_zero h0
    subst this
    exact .inl (by simp)
  · refine .inr ⟨a, ha, ⟨c.spot, fun j v hj => c.at_ j v ?_⟩⟩
    rw [← flat_take he] at hj
    rw [List.getElem?_take] at hj
    split at hj
    · exact hj
    · cases hj
theorem idxR_s {h0 : Hp} {A : Option Addr} {c : Nat} {l : List Rul} (r : RSl h0 A l.length 12 (l.flatMap Rul.enc)) (hl : l.length ≤ 1000000000) {f : FuncId} {fc : Array Value} {p : Rul → Bool} (hen : enters Tryz.prog f = true)
    (hf : ∀ x ∈ l, ∀ h, Ext h0 h → ∀ K : Value → Hp → Prop, (∀ h', Ext h h' → K (.bool (p x)) h') → CallsH Tryz.prog f (#[x.val] ++ fc) h K) {K : Value → Hp → Prop} (H : ∀ h', Ext h0 h' → K (.bool (l.any p)) h') : CallsH Tryz.prog 86 #[.slice A l.length c, .func (.func f) #[] fc] h0 K := by
  refine slices_ContainsFunc_api_Rule_ok _ _ _ _ _ _ ?_
  unfold slices_ContainsFunc_api_Rule
  refine slices_IndexFunc_api_Rule_ok _ _ _ _ _ _ ?_
  unfold slices_IndexFunc_api_Rule
  have key : ∀ (k i : Nat) (h : Hp), l.length - i < k → i ≤ l.length → Ext h0 h → (∀ x ∈ l.take i, p x = false) → slices_IndexFunc_api_Rule_l1 A l.length c (.func (.func f) #[] fc) (l.length : Int) (fun (x40 : Int) (h41 : Hp) => ∃ x5 : Int, (Value.int .i64 x40) = (.int .i64 x5) ∧ K (.bool (decide (x5 ≥ 0))) h41) (fun h42 => ∃ x5 : Int, (Value.int .i64 (-1)) = (.int .i64 x5) ∧ K (.bool (decide (x5 ≥ 0))) h42) k i h := by
    intro k
    induction k with
    | zero => intro i h hk; omega
    | succ k ih =>
      intro i h hk hi e hn
      unfold slices_IndexFunc_api_Rule_l1
      refine br_i (fun q => ?_) (fun q => ?_)
      · have hlt : i < l.length := by simpa using q
        have hx := List.getElem?_eq_getElem hlt
        generalize l[i] = x at hx
        have hxm := List.mem_of_getElem? hx
        obtain ⟨a, hix, hcl⟩ := ixRu (c := c) (r.ext e) hx
        refine ⟨_, hix, _, _, _, _, _, _, _, _, _, _, _, _, ldS (vs := x.enc) hcl (by kernel_rfl), callF hen (hf x hxm h e _ fun h1 e1 => ⟨_, rfl, br_i (fun u => ⟨_, rfl, ?_⟩) (fun u => ?_)⟩)⟩
        · have hany : l.any p = true := by rw [List.any_eq_true]; exact ⟨x, hxm, u⟩
          have := H h1 (e.trans e1)
          rw [hany] at this
          rw [decide_eq_true (by omega)]
          exact this
        · rw [wrapN (by omega)]
          refine ih (i + 1) h1 (by omega) (by omega) (e.trans e1) fun y hy => ?_
          obtain ⟨h1', h2'⟩ := List.getElem?_eq_some_iff.1 hx
          rw [List.take_succ_eq_append_getElem h1', h2', List.mem_append, List.mem_singleton] at hy
          rcases hy with hy | rfl
          · exact hn y hy
          · exact u
      · have hi' : i = l.length := by simp at q; omega
        subst hi'
        rw [List.take_length] at hn
        have hany : l.any p = false := by
          rw [List.any_eq_false]
          intro x hx
          rw [hn x hx]
          decide
        have := H h e
        rw [hany] at this
        exact ⟨_, rfl, this⟩
  exact ⟨l.length + 1, key _ 0 h0 (by omega) (by omega) (Ext.refl _) (by simp)⟩
/-- A list's error: of the rules behind those that are done. -/
def lsE : List Rul → List Rul → Int
  | _, [] => 0
  | done, r :: rest => if r.check.1 ≠ 0 then r.check.1 else if (done.any fun x => x.id == r.id) = true then 111 else if done.length = 64 then 113 else lsE (done ++ [r]) rest
def listE (l : List Rul) : Int := lsE [] l
theorem listE_at {l : List Rul} {i : Nat} {r : Rul} (hx : l[i]? = some r) : lsE (l.take i) (l.drop i) = if r.check.1 ≠ 0 then r.check.1 else if ((l.take i).any fun x => x.id == r.id) = true then 111 else if i = 64 then 113 else lsE (l.take (i + 1)) (l.drop (i + 1)) := by
  obtain ⟨h1, h2⟩ := List.getElem?_eq_some_iff.1 hx
  rw [List.drop_eq_getElem_cons h1, h2, lsE, List.take_succ_eq_append_getElem h1, h2, List.length_take, Nat.min_eq_left (by omega)]
theorem list_1_s (x : Rul) {h : Hp} {a : Addr} {id : Int} (hc : cell h a = some (.int .i64 id)) {K : Value → Hp → Prop} (H : ∀ h', Ext h h' → K (.bool (x.id == id)) h') : CallsH Tryz.prog 87 (#[x.val] ++ #[.pointer (some a)]) h K := by
  show CallsH Tryz.prog 87 #[x.val, .pointer (some a)] h K
  refine nest_list_1_ok _ _ _ _ _ _ _ _ _ _ _ _ _ ?_
  unfold nest_list_1
  exact newC_i (cs := x.enc) fun h1 e1 c1 b1 z1 => ⟨_, ld c1.head (by kernel_rfl), _, ld (e1.cell hc) (by kernel_rfl), H h1 e1⟩
theorem list_s {h0 : Hp} {A : Option Addr} {c : Nat} {l : List Rul} (r : RSl h0 A l.length 12 (l.flatMap Rul.enc)) (hl : l.length ≤ 1000000000) (hc : l.length ≤ c) {K : Value → Hp → Prop} (H : ∀ h', Ext h0 h' → K (.int .i64 (listE l)) h') : CallsH Tryz.prog 79 #[.slice A l.length c] h0 K := by
  refine nest_list_ok _ _ _ ?_
  unfold nest_list
  have key : ∀ (k i : Nat) (h : Hp), l.length - i < k → i ≤ l.length → Ext h0 h → lsE (l.take i) (l.drop i) = listE l → nest_list_l1 A l.length c A l.length c (l.length : Int) (fun (x79 : Int) (h80 : Hp) => K (.int .i64 x79) h80) (fun h81 => K (.int .i64 0) h81) k i h := by
    intro k
    induction k with
    | zero => intro i h hk; omega
    | succ k ih =>
      intro i h hk hi e hn
      unfold nest_list_l1
      refine br_i (fun q => ?_) (fun q => ?_)
      · have hlt : i < l.length := by simpa using q
        have hx := List.getElem?_eq_getElem hlt
        generalize l[i] = x at hx
        rw [listE_at hx] at hn
        obtain ⟨a, hix, hcl⟩ := ixRu (c := c) (r.ext e) hx
        refine ⟨_, hix, _, _, _, _, _, _, _, _, _, _, _, _, ldS (vs := x.enc) hcl (by kernel_rfl), newV (us := x.enc) rfl rfl size_ru rfl fun h1 e1 c1 b1 z1 => ⟨_, _, _, _, _, _, _, _, _, _, _, _, ldS (vs := x.enc) c1 (by kernel_rfl), rule_Check_s x fun er ix h2 e2 hec => ⟨_, _, rfl, ?_⟩⟩⟩
        have he : er = x.check.1 := by rw [← hec]
        subst he
        have e02 := (e.trans e1).trans e2
        refine br_i (fun u => ?_) (fun u => ?_)
        · rw [if_pos (by simpa using u)] at hn
          have := H h2 e02
          rw [← hn] at this
          exact this
        · rw [if_neg (by simpa using u)] at hn
          obtain ⟨inf, z, hi', hs, hb, hz, hcz⟩ := info_ru
          have hsl := slHi (P := Tryz.prog) (A := A) (l := l.length) (c := c) (x := (i : Int)) und_rus hi' (by omega) (by omega)
          rw [Int.toNat_natCast] at hsl
          have hlen : (l.take i).length = i := by rw [List.length_take]; omega
          have hr := RSl.take Rul.enc_len (r.ext e02) i
          refine ⟨_, _, _, hsl, ?_⟩
          have := idxR_s (c := c) hr (by omega) (f := 87) (fc := #[.pointer (some ⟨h.size, 0, none⟩)]) (p := fun y => y.id == x.id) (by kernel_rfl) (fun y _ h3 e3 K HK => list_1_s y (id := x.id) ((c1.ext e2).ext e3).head HK) (K := fun r77 h76 => ∃ b78 : Bool, r77 = (.bool b78) ∧
            br b78 (K (.int .i64 111) h76) (br ((i : Int) == 64) (K (.int .i64 113) h76) (nest_list_l1 A l.length c A l.length c (l.length : Int) (fun (x79 : Int) (h80 : Hp) => K (.int .i64 x79) h80) (fun h81 => K (.int .i64 0) h81) k (IntKind.i64.wrap ((i : Int) + 1)) h76))) (fun h3 e3 => ⟨_, rfl, br_i (fun u2 => ?_) (fun u2 => br_i (fun u3 => ?_) (fun u3 => ?_))⟩)
          · rw [hlen] at this
            exact this
          · rw [if_pos u2] at hn
            have := H h3 (e02.trans e3)
            rw [← hn] at this
            exact this
          · rw [if_neg (by rw [u2]; decide), if_pos (by simp at u3; omega)] at hn
            have := H h3 (e02.trans e3)
            rw [← hn] at this
            exact this
          · rw [if_neg (by rw [u2]; decide), if_neg (by simp at u3; omega)] at hn
            rw [wrapN (by omega)]
            exact ih (i + 1) h3 (by omega) (by omega) (e02.trans e3) hn
      · have hi' : i = l.length := by simp at q; omega
        subst hi'
        rw [List.take_length, List.drop_length] at hn
        have := H h e
        rw [← hn] at this
        exact this
  exact ⟨l.length + 1, key _ 0 h0 (by omega) (by omega) (Ext.refl _) (by simp [listE])⟩
theorem cfP_lt (p q : Pf) : cfP p q < 0 ↔ (p.addr < q.addr ∨ p.addr = q.addr ∧ p.len < q.len) := by
  unfold cfP or2 cmp3
  repeat' split
  all_goals omega
theorem ltP (p q : Pf) : ltOf cfP p q = decide (p.addr < q.addr ∨ p.addr = q.addr ∧ p.len < q.len) := by
  show decide (cfP p q < 0) = _
  rw [decide_eq_decide]
  exact cfP_lt p q
theorem totP (a b : Pf) (h1 : ltOf cfP a b = false) (h2 : ltOf cfP b a = false) : a = b := by
  rw [ltP, decide_eq_false_iff_not] at h1 h2
  obtain ⟨p, q⟩ := a
  obtain ⟨r, s⟩ := b
  simp only at h1 h2
  have e1 : p = r := by omega
  have e2 : q = s := by omega
  rw [e1, e2]
theorem sort_pf {h : Hp} {A : Option Addr} {c : Nat} {l : List Pf} (r : RowF h A c l) (hl : l.length < 2 ^ 62) {K : Value → Hp → Prop}
    (H : ∀ h' ys, ys.Perm l → ys.Pairwise (fun a b => ltOf cfP b a = false) → RowF h' A c ys → Fr (blk A) h h' → K (.tuple #[]) h') :
    CallsH Tryz.prog 88 #[.slice A l.length c, .func (.func 89) #[] #[]] h K := by
  rcases Nat.eq_zero_or_pos l.length with h0 | h0
  · have e : l = [] := List.eq_nil_of_length_eq_zero h0
    subst e
    intro w hw
    subst hw
    refine (Tryz.slices_SortFunc_none (α := Int) A c (.func (.func 89) #[] #[]) w).mono ?_
    rintro e w' ⟨rfl, rfl⟩
    exact ⟨_, rfl, Same.refl _, H _ [] (List.Perm.refl _) List.Pairwise.nil r (Fr.refl _ _)⟩
  · letI : Inhabited Pf := ⟨⟨0, 0⟩⟩
    obtain ⟨g, rfl⟩ := r.blk0 Pf.leng h0
    refine sort_rowK (P := Tryz.prog) (enc := Pf.enc) (sz := 2) (lt := ltOf cfP) Pf.leng (by decide) r.row (fun w hw hlt hH => ?_) fun h' ys hp hs r' f => H h' ys hp hs ⟨r', r.cap⟩ (f.mono fun k hk => ⟨_, rfl, hk.symm⟩)
    refine Tryz.slices_SortFunc (α := Pf) 2 Tryz.isAgg45 Tryz.sizeOf45 Pf.enc Pf.leng (by intro x v hv; simp [Pf.enc] at hv; rcases hv with rfl | rfl <;> rfl) cfP ⟨fun x => ?_, fun x y z h1 h2 => ?_, fun x y z h1 h2 => ?_⟩ 89 #[] g 0 c l.toArray w
      (enters_calls Tryz.func89 (by kernel_rfl) (by kernel_rfl)) (cmp_lays fun h' _ x y => Compare_s x y fun h'' e => ⟨rfl, e⟩) hH hlt (by rw [List.size_toArray]; exact hl)
    · rw [ltP, decide_eq_false_iff_not]; omega
    · rw [ltP, decide_eq_true_eq] at *; omega
    · rw [ltP, decide_eq_false_iff_not] at *; omega
/-! ### Compact -/
theorem st_pf {h : Hp} {g c : Nat} {xs : List Pf} {j : Nat} (x : Pf) {K : Hp → Prop} (r : RowF h (some ⟨g, 0, none⟩) c xs) (hj : j < xs.length) (H : ∀ h', RowF h' (some ⟨g, 0, none⟩) c (xs.set j x) → Fr (fun k => k = g) h h' → h'.size = h.size → K h') :
    HU Tryz.prog (Instr.storeAt 45 (.pointer (some ⟨g, j * 2, none⟩)) (.agg #[.int .u32 x.addr, .int .i64 x.len])) h K :=
  HU_elem (x := x) Pf.leng Pf.flat r.row hj rfl size_pf fun h' r' f z => H h' ⟨r', r.cap⟩ f z
theorem ixP0 {g l c i : Nat} (h1 : i < l) : PV Tryz.prog (Instr.indexAt 137 (.slice (some ⟨g, 0, none⟩) l c) (.int .i64 (i : Int))) (.pointer (some ⟨g, i * 2, none⟩)) := ix0 h1 und_pfs size_pf
theorem ixPo {g o l c i : Nat} (h1 : i < l) : PV Tryz.prog (Instr.indexAt 137 (.slice (some ⟨g, o * 2, none⟩) l c) (.int .i64 (i : Int))) (.pointer (some ⟨g, (o + i) * 2, none⟩)) := by
  have := ix (P := Tryz.prog) (T := 137) (E := 45) (a := ⟨g, o * 2, none⟩) (l := l) (c := c) (sz := 2) (k := .i64) (i := (i : Int)) (by omega) (by omega) und_pfs size_pf
  rw [Int.toNat_natCast, add_off rfl] at this
  rw [show (o + i) * 2 = o * 2 + i * 2 by omega]
  exact this
theorem ldP {h : Hp} {g c : Nat} {xs : List Pf} (r : RowF h (some ⟨g, 0, none⟩) c xs) {i : Nat} {x : Pf} (hi : xs[i]? = some x) : HV Tryz.prog (Instr.loadAt 45 (.pointer (some ⟨g, i * 2, none⟩))) h (.agg #[.int .u32 x.addr, .int .i64 x.len]) := ldS (r.elem0 Pf.leng hi) (by kernel_rfl)
theorem compact_l3 {g c d k0 : Nat} {xs : List Pf} {hb : Hp} (hk : 0 < k0) (hkn : k0 < xs.length) (hl : xs.length ≤ 1000000000) {K0 : (Option Addr) → Nat → Nat → Int → Hp → Prop}
    (H : ∀ h' ws, Fr (fun q => q = g) hb h' → RowF h' (some ⟨g, 0, none⟩) c ws → ws.length = xs.length → ws.take (cpt xs).length = cpt xs → (cpt xs).length < xs.length → K0 (some ⟨g, 0, none⟩) xs.length c ((cpt xs).length : Int) h') :
    ∀ (k j : Nat) (h : Hp) (ws : List Pf), xs.length - (k0 + j) < k → 1 ≤ j → k0 + j ≤ xs.length → Fr (fun q => q = g) hb h → RowF h (some ⟨g, 0, none⟩) c ws → ws.length = xs.length → (cpt (xs.take (k0 + j))).length < k0 + j → ws.take (cpt (xs.take (k0 + j))).length = cpt (xs.take (k0 + j)) → ws.drop (cpt (xs.take (k0 + j))).length = xs.drop (cpt (xs.take (k0 + j))).length →
      slices_Compact_api_Prefix_l3 (some ⟨g, 0, none⟩) xs.length c (some ⟨g, k0 * 2, none⟩) (xs.length - k0) d K0 k ((cpt (xs.take (k0 + j))).length : Int) (j : Int) h := by
  intro k
  induction k with
  | zero => intro j h ws hk; omega
  | succ k ih =>
    intro j h ws hk hj hle f r hw hlt ht hd
    unfold slices_Compact_api_Prefix_l3
    have dget : ∀ p, (cpt (xs.take (k0 + j))).length ≤ p → ws[p]? = xs[p]? := fun p hp => by
      have := congrArg (fun L => L[p - (cpt (xs.take (k0 + j))).length]?) hd
      simp only [List.getElem?_drop] at this
      rwa [show (cpt (xs.take (k0 + j))).length + (p - (cpt (xs.take (k0 + j))).length) = p by omega] at this
    refine br_i (fun u => ?_) (fun u => ?_)
    · have hjl : k0 + j < xs.length := by simp at u; omega
      have hb1 := List.getElem?_eq_getElem hjl
      generalize xs[k0 + j] = b at hb1
      have ha1 : xs[k0 + j - 1]? = some xs[k0 + j - 1] := List.getElem?_eq_getElem (by omega)
      generalize xs[k0 + j - 1] = a at ha1
      have step := cpt_step (xs := xs) (m := k0 + j) (by omega) ha1 hb1
      have hw1 : IntKind.i64.wrap ((j : Int) - 1) = ((j - 1 : Nat) : Int) := by rw [wrap_in (by omega) (by omega)]; omega
      rw [hw1]
      have wb : ws[k0 + j]? = some b := by rw [dget _ (by omega)]; exact hb1
      have wa : ws[k0 + (j - 1)]? = some a := by rw [show k0 + (j - 1) = k0 + j - 1 by omega, dget _ (by omega)]; exact ha1
      refine ⟨_, ixPo (by omega), _, _, ldP r wb, _, ixPo (by omega), _, _, ldP r wa, _, ne_pf b a, br_i (fun v => ?_) (fun v => ?_)⟩
      · have v : ¬ b = a := by simpa using v
        rw [if_neg (fun e => v e.symm)] at step
        refine ⟨_, ixPo (by omega), _, _, ldP r wb, _, ixP0 (by omega), st_pf b r (by omega) fun h2 r2 f2 z2 => ?_⟩
        rw [wrapN (by omega), wrapN (by omega)]
        have hlen : (cpt (xs.take (k0 + (j + 1)))).length = (cpt (xs.take (k0 + j))).length + 1 := by
          rw [show k0 + (j + 1) = k0 + j + 1 by omega, step]; simp
        have := ih (j + 1) h2 (ws.set (cpt (xs.take (k0 + j))).length b) (by omega) (by omega) (by omega) (f.trans f2) r2 (by simpa using hw) (by rw [hlen]; omega)
          (by
            rw [hlen, show k0 + (j + 1) = k0 + j + 1 by omega, step, List.take_succ_eq_append_getElem (by simp; omega)]
            congr 1
            · rw [List.take_set_of_le (Nat.le_refl _)]; exact ht
            · simp)
          (by
            rw [hlen]
            refine List.ext_getElem? fun p => ?_
            rw [List.getElem?_drop, List.getElem?_drop, List.getElem?_set_ne (by omega)]
            exact dget _ (by omega))
        rw [hlen] at this
        exact this
      · have v : b = a := by simpa using v
        rw [if_pos v.symm] at step
        rw [wrapN (by omega)]
        have := ih (j + 1) h ws (by omega) (by omega) (by omega) f r hw
        rw [show k0 + (j + 1) = k0 + j + 1 by omega, step] at this
        exact this (by omega) ht hd
    · have hje : k0 + j = xs.length := by simp at u; omega
      rw [hje, List.take_length] at hlt ht ⊢
      exact H h ws f r hw ht hlt
theorem compact_s {h : Hp} {A : Option Addr} {c : Nat} {xs : List Pf} (r : RowF h A c xs) (hl : xs.length ≤ 1000000000) {K : Value → Hp → Prop}
    (H : ∀ h', RowF h' A c (cpt xs) → Fr (blk A) h h' → K (.slice A (cpt xs).length c) h') : CallsH Tryz.prog 90 #[.slice A xs.length c] h K := by
  refine slices_Compact_api_Prefix_ok _ _ _ ?_
  unfold slices_Compact_api_Prefix
  refine br_i (fun u => ?_) (fun u => ?_)
  · have : xs.length < 2 := by simp at u; omega
    have e : cpt xs = xs := by
      match xs, this with
      | [], _ => rfl
      | [x], _ => rfl
    have := H h (by rw [e]; exact r) (Fr.refl _ _)
    rw [e] at this
    exact this
  · have hn : 2 ≤ xs.length := by simp at u; omega
    obtain ⟨g, rfl⟩ := r.blk0 Pf.leng (by omega)
    have key : ∀ (k i : Nat), xs.length - i < k → 1 ≤ i → i ≤ xs.length → cpt (xs.take i) = xs.take i → slices_Compact_api_Prefix_l2 (some ⟨g, 0, none⟩) xs.length c (fun A98 l98 c98 h99 => K (.slice A98 l98 c98) h99) (fun A100 l100 c100 h101 => K (.slice A100 l100 c100) h101) k (i : Int) h := by
      intro k
      induction k with
      | zero => intro i hk; omega
      | succ k ih =>
        intro i hk hi hin hc
        unfold slices_Compact_api_Prefix_l2
        refine br_i (fun v => ?_) (fun v => ?_)
        · have hil : i < xs.length := by simpa using v
          have hb1 := List.getElem?_eq_getElem hil
          generalize xs[i] = b at hb1
          have ha1 : xs[i - 1]? = some xs[i - 1] := List.getElem?_eq_getElem (by omega)
          generalize xs[i - 1] = a at ha1
          have step := cpt_step (xs := xs) (m := i) (by omega) ha1 hb1
          have hw1 : IntKind.i64.wrap ((i : Int) - 1) = ((i - 1 : Nat) : Int) := by rw [wrap_in (by omega) (by omega)]; omega
          rw [hw1]
          refine ⟨_, ixP0 hil, _, _, ldP r hb1, _, ixP0 (by omega), _, _, ldP r ha1, _, eq_pf b a, br_i (fun w => ?_) (fun w => ?_)⟩
          · have w : b = a := by simpa using w
            rw [if_pos w.symm, hc] at step
            obtain ⟨inf, z, hi', hs, hb, hz, hcz⟩ := info_pf
            have hle := r.le
            have s1 := slLo (P := Tryz.prog) (A := some ⟨g, 0, none⟩) (l := xs.length) (c := c) (x := (i : Int)) und_pfs hi' (by omega) (by omega)
            rw [Int.toNat_natCast, if_neg (by omega), hs] at s1
            simp only [Option.map_some, add_eq0] at s1
            have hlt1 : (xs.take i).length = i := by rw [List.length_take]; omega
            refine ⟨_, _, _, s1, xs.length + 1, ?_⟩
            have := compact_l3 (g := g) (c := c) (d := c - i) (k0 := i) (xs := xs) (hb := h) (by omega) hil hl (K0 := fun (A90 : Option Addr) (l90 : Nat) (c90 : Nat) (x91 : Int) (h92 : Hp) =>
              ∃ A93 : Option Addr, ∃ l93 : Nat, ∃ c93 : Nat, PV Tryz.prog (Instr.sliceAt 137 (.slice A90 l90 c90) (some (.int .i64 x91)) none none) (.slice A93 l93 c93) ∧
              HW Tryz.prog (Builtin.clear_ #[137] 0 #[(.slice A93 l93 c93)]) h92 fun r95 h94 =>
              r95 = (.tuple #[]) ∧
              ∃ A96 : Option Addr, ∃ l96 : Nat, ∃ c96 : Nat, PV Tryz.prog (Instr.sliceAt 137 (.slice A90 l90 c90) none (some (.int .i64 x91)) none) (.slice A96 l96 c96) ∧
              K (.slice A96 l96 c96) h94) (fun h2 ws f2 r2 hwl htk hcl => by
                have s2 := slLo (P := Tryz.prog) (A := some ⟨g, 0, none⟩) (l := xs.length) (c := c) (x := (((cpt xs).length : Nat) : Int)) und_pfs hi' (by omega) (by omega)
                rw [Int.toNat_natCast, if_neg (by omega), hs] at s2
                simp only [Option.map_some, add_eq0] at s2
                refine ⟨_, _, _, s2, ?_⟩
                have cr := HW_clearRow (P := Tryz.prog) (T := 137) (ty := 0) (dc := c - (cpt xs).length) (k := (cpt xs).length) (K := fun r95 h94 => r95 = (.tuple #[]) ∧
                  ∃ A96 : Option Addr, ∃ l96 : Nat, ∃ c96 : Nat, PV Tryz.prog (Instr.sliceAt 137 (.slice (some ⟨g, 0, none⟩) xs.length c) none (some (.int .i64 (((cpt xs).length : Nat) : Int))) none) (.slice A96 l96 c96) ∧
                  K (.slice A96 l96 c96) h94) Pf.leng und_pfs hi' hz (by rw [hcz]; rfl) (by rw [hcz]; rfl) (by decide) r2.row (by omega) (fun h3 r3 f3 => by
                    have s3 := slHi (P := Tryz.prog) (A := some ⟨g, 0, none⟩) (l := xs.length) (c := c) (x := (((cpt xs).length : Nat) : Int)) und_pfs hi' (by omega) (by omega)
                    rw [Int.toNat_natCast] at s3
                    rw [htk] at r3
                    exact ⟨rfl, _, _, _, s3, H h3 ⟨r3, r.cap⟩ ((f2.trans f3).mono fun k hk => ⟨_, rfl, hk.symm⟩)⟩)
                rw [hwl] at cr
                exact cr) (xs.length + 1) 1 h xs (by omega) (by omega) (by omega) (Fr.refl _ _) r rfl (by rw [step, hlt1]; omega) (by rw [step, hlt1]) rfl
            rw [step, hlt1] at this
            exact this
          · have w : ¬ b = a := by simpa using w
            rw [if_neg (fun e => w e.symm), hc] at step
            rw [wrapN (by omega)]
            refine ih (i + 1) (by omega) (by omega) (by omega) ?_
            rw [step]
            obtain ⟨h1, h2⟩ := List.getElem?_eq_some_iff.1 hb1
            rw [List.take_succ_eq_append_getElem h1, h2]
        · have : i = xs.length := by simp at v; omega
          subst this
          rw [List.take_length] at hc
          have := H h (by rw [hc]; exact r) (Fr.refl _ _)
          rw [hc] at this
          exact this
    have h1 : cpt (xs.take 1) = xs.take 1 := by
      match xs, hn with
      | x :: L, _ => rfl
    exact ⟨xs.length + 1, key _ 1 (by omega) (by omega) (by omega) h1⟩
/-! ### unlike, holders -/
theorem app_pF {h0 h : Hp} {A : Option Addr} {c cx : Nat} {ax : Addr} {l : List Pf} {x : Pf} {K : Value → Hp → Prop} (e : Ext h0 h) (r : RowF h A c l) (hF : Fresh h0 A) (hx : Cl h ax x.enc) (hl : l.length ≤ 1000000000)
    (H : ∀ h' A' c', Ext h0 h' → RowF h' A' c' (l ++ [x]) → Fresh h0 A' → Fr (blk A) h h' → K (.slice A' (l ++ [x]).length c') h') :
    HW Tryz.prog (Builtin.append_ #[137, 137] 137 #[.slice A l.length c, .slice (some ax) 1 cx]) h K := by
  obtain ⟨i, z, hi, hs, hb, hz, hc⟩ := info_pf
  exact appF (z := z) Pf.leng Pf.flat und_pfs hi hz (by rw [hc]; rfl) hs (by omega) (by omega) e r hF hx hl H
theorem app_rF {h0 h : Hp} {A : Option Addr} {c cx : Nat} {ax : Addr} {l : List Rul} {x : Rul} {K : Value → Hp → Prop} (e : Ext h0 h) (r : RowR h A c l) (hF : Fresh h0 A) (hx : Cl h ax x.enc) (hl : l.length ≤ 1000000000)
    (H : ∀ h' A' c', Ext h0 h' → RowR h' A' c' (l ++ [x]) → Fresh h0 A' → Fr (blk A) h h' → K (.slice A' (l ++ [x]).length c') h') :
    HW Tryz.prog (Builtin.append_ #[42, 42] 42 #[.slice A l.length c, .slice (some ax) 1 cx]) h K := by
  obtain ⟨i, z, hi, hs, hb, hz, hc⟩ := info_ru
  exact appF (z := z) Rul.enc_len Rul.flat und_rus hi hz (by rw [hc]; rfl) hs (by omega) (by omega) e r hF hx hl H
theorem unlikeR_s {h0 : Hp} {A : Option Addr} {c : Nat} {l : List Rul} (r : RSl h0 A l.length 12 (l.flatMap Rul.enc)) (hl : l.length ≤ 1000000000) {f : FuncId} {of : Rul → Pf} (hen : enters Tryz.prog f = true)
    (hf : ∀ (x : Rul) (h : Hp) (K : Value → Hp → Prop), (∀ h', Ext h h' → K (of x).val h') → CallsH Tryz.prog f #[x.val] h K) {K : Value → Hp → Prop}
    (H : ∀ h' B d us, Ext h0 h' → us.Nodup → (∀ z, z ∈ us ↔ z ∈ l.map of) → us.length ≤ l.length → RowF h' B d us → Fresh h0 B → K (.slice B us.length d) h') : CallsH Tryz.prog 80 #[.slice A l.length c, .func (.func f) #[] #[]] h0 K := by
  refine nest_unlike_ok _ _ _ _ _ _ ?_
  unfold nest_unlike
  have key : ∀ (K0 : (Option Addr) → Nat → Nat → Hp → Prop), (∀ h' B d, Ext h0 h' → RowF h' B d (l.map of) → Fresh h0 B → K0 B l.length d h') → ∀ (k i : Nat) (h : Hp) (B : Option Addr) (d : Nat), l.length - i < k → i ≤ l.length → Ext h0 h → RowF h B d ((l.take i).map of) → Fresh h0 B →
      nest_unlike_l1 (.func (.func f) #[] #[]) A l.length c (l.length : Int) K0 k B i d (i : Int) h := by
    intro K0 HK k
    induction k with
    | zero => intro i h B d hk; omega
    | succ k ih =>
      intro i h B d hk hi e rB hF
      unfold nest_unlike_l1
      refine br_i (fun q => ?_) (fun q => ?_)
      · have hlt : i < l.length := by simpa using q
        have hx := List.getElem?_eq_getElem hlt
        generalize l[i] = x at hx
        obtain ⟨a, hix, hcl⟩ := ixRu (c := c) (r.ext e) hx
        refine ⟨_, hix, _, _, _, _, _, _, _, _, _, _, _, _, ldS (vs := x.enc) hcl (by kernel_rfl), newV (us := x.enc) rfl rfl size_ru rfl fun h1 e1 c1 b1 z1 => ⟨_, _, _, _, _, _, _, _, _, _, _, _, ldS (vs := x.enc) c1 (by kernel_rfl), callF hen ?_⟩⟩
        refine hf x h1 _ fun h2 e2 => ⟨_, _, rfl, newC_i (cs := (of x).enc) fun h3 e3 c3 b3 z3 => ?_⟩
        have e03 := ((e.trans e1).trans e2).trans e3
        have hlen : ((l.take i).map of).length = i := by rw [List.length_map, List.length_take]; omega
        have := app_pF (cx := 1) (K := fun r81 h80 => ∃ A82 : Option Addr, ∃ l82 : Nat, ∃ c82 : Nat, r81 = (.slice A82 l82 c82) ∧ nest_unlike_l1 (.func (.func f) #[] #[]) A l.length c (l.length : Int) K0 k A82 l82 c82 (IntKind.i64.wrap ((i : Int) + 1)) h80) e03 (((rB.ext e1).ext e2).ext e3) hF c3 (by omega) (fun h4 B' d' e4 r4 hF4 f4 => ⟨_, _, _, rfl, by
          rw [wrapN (by omega)]
          have hst : (l.take (i + 1)).map of = (l.take i).map of ++ [of x] := by
            obtain ⟨h1, h2⟩ := List.getElem?_eq_some_iff.1 hx
            rw [List.take_succ_eq_append_getElem h1, h2]; simp
          have hl2 : ((l.take i).map of ++ [of x]).length = i + 1 := by rw [List.length_append, hlen]; rfl
          rw [hl2]
          exact ih (i + 1) h4 B' d' (by omega) (by omega) e4 (by rw [hst]; exact r4) hF4⟩)
        rw [hlen] at this
        exact this
      · have hi' : i = l.length := by simp at q; omega
        subst hi'
        rw [List.take_length] at rB
        exact HK h B d e rB hF
  refine ⟨l.length + 1, key _ (fun h1 B d e1 r1 hF1 => ?_) (l.length + 1) 0 h0 none 0 (by omega) (by omega) (Ext.refl _) RowC.nil (Fresh.none _)⟩
  have hlm : (l.map of).length = l.length := List.length_map _
  rw [← hlm]
  refine sort_pf r1 (by omega) fun h2 ys hp hs r2 f2 => ⟨rfl, ?_⟩
  have hly := hp.length_eq
  rw [← hly]
  refine compact_s r2 (by omega) fun h3 r3 f3 => ⟨_, _, _, rfl, ?_⟩
  have e3 : Ext h0 h3 := extOwn (extOwn e1 f2 (fun k hk => hF1 k hk)) f3 (fun k hk => hF1 k hk)
  refine H h3 B d (cpt ys) e3 (cpt_nodup totP (fun a => by rw [ltP, decide_eq_false_iff_not]; omega) hs) (fun z => (cpt_mem ys z).trans hp.mem_iff) ?_ r3 hF1
  have : (cpt ys).length ≤ ys.length := by
    cases ys with
    | nil => simp [cpt]
    | cons x L => unfold cpt; have := cpt_len_le L x; simp; omega
  omega
def held (l : List Rul) (s : Pf) : List Rul := l.filter fun r => withinB s r.src
theorem holders_s {h0 : Hp} {A : Option Addr} {c : Nat} {l : List Rul} (s : Pf) (r : RSl h0 A l.length 12 (l.flatMap Rul.enc)) (hl : l.length ≤ 1000000000) {K : Value → Hp → Prop}
    (H : ∀ h' B d, Ext h0 h' → RowR h' B d (held l s) → Fresh h0 B → K (.slice B (held l s).length d) h') : CallsH Tryz.prog 82 #[.slice A l.length c, s.val] h0 K := by
  refine nest_holders_ok _ _ _ _ _ ?_
  unfold nest_holders
  refine newC_i (cs := s.enc) fun hb eb cb bb zb => ?_
  have key : ∀ (k i : Nat) (h : Hp) (B : Option Addr) (d : Nat), l.length - i < k → i ≤ l.length → Ext hb h → RowR h B d (held (l.take i) s) → Fresh hb B →
      nest_holders_l1 ⟨h0.size, 0, none⟩ A l.length c (l.length : Int) (fun A92 l92 c92 h93 => K (.slice A92 l92 c92) h93) k B (held (l.take i) s).length d (i : Int) h := by
    intro k
    induction k with
    | zero => intro i h B d hk; omega
    | succ k ih =>
      intro i h B d hk hi e rB hF
      unfold nest_holders_l1
      refine br_i (fun q => ?_) (fun q => ?_)
      · have hlt : i < l.length := by simpa using q
        have hx := List.getElem?_eq_getElem hlt
        generalize l[i] = x at hx
        have e0 := eb.trans e
        obtain ⟨a, hix, hcl⟩ := ixRu (c := c) (r.ext e0) hx
        have hst : held (l.take (i + 1)) s = held (l.take i) s ++ (if withinB s x.src = true then [x] else []) := by
          obtain ⟨h1, h2⟩ := List.getElem?_eq_some_iff.1 hx
          rw [List.take_succ_eq_append_getElem h1, h2]
          unfold held
          rw [List.filter_append]
          congr 1
          cases hb : withinB s x.src <;> simp [hb]
        have hlh : (held (l.take i) s).length ≤ i := by
          unfold held
          have := List.length_filter_le (fun r => withinB s r.src) (l.take i)
          rw [List.length_take] at this
          omega
        refine ⟨_, hix, _, _, _, _, _, _, _, _, _, _, _, _, ldS (vs := x.enc) hcl (by kernel_rfl), newV (us := x.enc) rfl rfl size_ru rfl fun h1 e1 c1 b1 z1 => ⟨_, _, ldS ((cb.ext e).ext e1) (by kernel_rfl), _, _, ldS (Rul.cl_src c1) (by kernel_rfl), Within_s s x.src fun h2 e2 => ⟨_, rfl, ?_⟩⟩⟩
        have e02 := (e.trans e1).trans e2
        cases hw : withinB s x.src
        · rw [hw] at hst
          simp only [Bool.false_eq_true, if_false, List.append_nil] at hst
          refine br_f rfl ?_
          rw [wrapN (by omega)]
          have := ih (i + 1) h2 B d (by omega) (by omega) e02 (by rw [hst]; exact (rB.ext e1).ext e2) hF
          rw [hst] at this
          exact this
        · rw [hw] at hst
          simp only [if_true] at hst
          refine br_t rfl ⟨_, _, _, _, _, _, _, _, _, _, _, _, ldS (vs := x.enc) (c1.ext e2) (by kernel_rfl), newC_i (cs := x.enc) fun h3 e3 c3 b3 z3 => ?_⟩
          refine app_rF (e02.trans e3) (((rB.ext e1).ext e2).ext e3) hF c3 (by omega) fun h4 B' d' e4 r4 hF4 f4 => ⟨_, _, _, rfl, ?_⟩
          rw [wrapN (by omega), ← hst]
          rw [← hst] at r4
          exact ih (i + 1) h4 B' d' (by omega) (by omega) e4 r4 hF4
      · have hi' : i = l.length := by simp at q; omega
        subst hi'
        rw [List.take_length] at rB ⊢
        exact H h B d (eb.trans e) rB (hF.sub eb)
  exact ⟨l.length + 1, key _ 0 hb none 0 (by omega) (by omega) (Ext.refl _) RowC.nil (Fresh.none _)⟩
theorem tk1 {α : Type} {l : List α} {i : Nat} {x : α} (h : l[i]? = some x) : l.take (i + 1) = l.take i ++ [x] := by
  obtain ⟨h1, h2⟩ := List.getElem?_eq_some_iff.1 h
  rw [List.take_succ_eq_append_getElem h1, h2]
/-! ### Pairs -/
theorem filt1 {α : Type} {l : List α} {i : Nat} {x : α} (h : l[i]? = some x) (p : α → Bool) : ((l.take (i + 1)).filter p).length = ((l.take i).filter p).length + (if p x = true then 1 else 0) := by
  rw [tk1 h, List.filter_append, List.length_append]
  congr 1
  cases hp : p x <;> simp [hp]
theorem filtle {α : Type} (l : List α) (i : Nat) (p : α → Bool) : ((l.take i).filter p).length ≤ i := by
  have := List.length_filter_le p (l.take i)
  rw [List.length_take] at this
  omega
theorem lsE_ok : ∀ (rest done : List Rul), done.length ≤ 64 → lsE done rest = 0 → done.length + rest.length ≤ 64 ∧ (∀ r ∈ rest, r.check.1 = 0) ∧ (∀ r ∈ rest, ∀ x ∈ done, x.id ≠ r.id) ∧ rest.Pairwise (fun x y => x.id ≠ y.id)
  | [], done, hd, _ => ⟨by simpa using hd, by simp, by simp, List.Pairwise.nil⟩
  | r :: rest, done, hd, h => by
    unfold lsE at h
    split at h
    · rename_i hc; exact absurd h hc
    · rename_i hc
      split at h
      · cases h
      · rename_i ha
        split at h
        · cases h
        · rename_i h64
          have hc : r.check.1 = 0 := by simpa using hc
          have ha : ∀ x ∈ done, x.id ≠ r.id := by simpa using ha
          obtain ⟨h1, h2, h3, h4⟩ := lsE_ok rest (done ++ [r]) (by simp; omega) h
          rw [List.length_append, List.length_singleton] at h1
          refine ⟨by rw [List.length_cons]; omega, fun x hx => ?_, fun x hx y hy => ?_, List.pairwise_cons.2 ⟨fun x hx => h3 x hx r (by simp), h4⟩⟩
          · rcases List.mem_cons.1 hx with rfl | hx
            · exact hc
            · exact h2 x hx
          · rcases List.mem_cons.1 hx with rfl | hx
            · exact ha y hy
            · exact h3 x hx y (List.mem_append_left _ hy)
theorem listE_len {l : List Rul} (h : listE l = 0) : l.length ≤ 64 := by have := (lsE_ok l [] (by simp) h).1; simpa using this
theorem listE_chk {l : List Rul} (h : listE l = 0) : ∀ r ∈ l, r.check.1 = 0 := (lsE_ok l [] (by simp) h).2.1
/-! ### Grid -/
theorem held_le (l : List Rul) (s : Pf) : (held l s).length ≤ l.length := List.length_filter_le _ _
theorem sum1 {α : Type} {l : List α} {i : Nat} {x : α} (h : l[i]? = some x) (f : α → Nat) : ((l.take (i + 1)).map f).sum = ((l.take i).map f).sum + f x := by
  rw [tk1 h, List.map_append, List.sum_append]; simp
theorem sum_bd {α : Type} (f : α → Nat) (B : Nat) : ∀ (l : List α), (∀ x ∈ l, f x ≤ B) → (l.map f).sum ≤ l.length * B
  | [], _ => by simp
  | x :: l, h => by
    have h1 := h x (by simp)
    have h2 := sum_bd f B l fun y hy => h y (List.mem_cons_of_mem _ hy)
    rw [List.map_cons, List.sum_cons, List.length_cons, Nat.add_mul, Nat.one_mul]
    omega
theorem wrapS {a b : Nat} (h : a + b < 2 ^ 62) : IntKind.i64.wrap ((a : Int) + (b : Int)) = ((a + b : Nat) : Int) := by rw [wrap_in (by omega) (by omega)]; omega
section
variable {h0 : Hp} {A : Option Addr} {c : Nat} {l : List Rul}
def cntD (L : List Rul) (d : Pf) : Nat := (L.filter fun r => withinB d r.dst).length
def pruneS (l : List Rul) (s : Pf) : Nat := ((uq ((held l s).map Rul.dst)).map (cntD (held l s))).sum
def pruneN (l : List Rul) : Nat := ((uq (l.map Rul.src)).map (pruneS l)).sum
theorem cntD_le (L : List Rul) (d : Pf) : cntD L d ≤ L.length := List.length_filter_le _ _
theorem pruneS_le {l : List Rul} (hl : l.length ≤ 64) (s : Pf) : pruneS l s ≤ 64 * 64 := by
  have h1 := sum_bd (cntD (held l s)) 64 (uq ((held l s).map Rul.dst)) fun d _ => Nat.le_trans (cntD_le _ d) (Nat.le_trans (held_le l s) hl)
  have h2 := uq_len ((held l s).map Rul.dst)
  rw [List.length_map] at h2
  have h3 := held_le l s
  have h4 : (uq ((held l s).map Rul.dst)).length * 64 ≤ 64 * 64 := Nat.mul_le_mul_right _ (by omega)
  unfold pruneS
  omega
theorem Prune_l7 {h1 : Hp} {A8 : Option Addr} {l8 c8 : Nat} {L : List Rul} {B : Option Addr} {e' : Nat} {ad : Addr} {d : Pf} {A9 A10 : Option Addr} {l9 c9 l10 c10 : Nat} {x43 x44 x46 x47 : Int} (rL : RSl h1 B L.length 12 (L.flatMap Rul.enc)) (hL : L.length ≤ 64) (cd : Cl h1 ad d.enc) {n0 : Nat} (hn0 : n0 ≤ 1000000)
    {K0 : (Option Addr) → Nat → Nat → Int → (Option Addr) → Nat → Nat → (Option Addr) → Nat → Nat → Int → Int → (Option Addr) → Nat → Nat → Int → Int → Hp → Prop}
    (H : ∀ h', Ext h1 h' → K0 A8 l8 c8 ((n0 + cntD L d : Nat) : Int) B L.length e' A9 l9 c9 x43 x44 A10 l10 c10 x46 x47 h') :
    ∀ (k j : Nat) (h : Hp), L.length - j < k → j ≤ L.length → Ext h1 h → nest_Prune_l7 A8 l8 c8 B L.length e' ad A9 l9 c9 x43 x44 A10 l10 c10 x46 x47 B L.length e' (L.length : Int) K0 k ((n0 + ((L.take j).filter fun r => withinB d r.dst).length : Nat) : Int) (j : Int) h := by
  intro k
  induction k with
  | zero => intro j h hk; omega
  | succ k ih =>
    intro j h hk hj e
    unfold nest_Prune_l7
    refine br_i (fun q => ?_) (fun q => ?_)
    · have hlt : j < L.length := by simpa using q
      have hx := List.getElem?_eq_getElem hlt
      generalize L[j] = x at hx
      have hst := filt1 hx fun r => withinB d r.dst
      have hle := filtle L j fun r => withinB d r.dst
      have ih' := fun h2 e2 => ih (j + 1) h2 (by omega) (by omega) e2
      rw [hst] at ih'
      obtain ⟨a, hix, hcl⟩ := ixRu (c := e') (rL.ext e) hx
      refine ⟨_, hix, _, _, _, _, _, _, _, _, _, _, _, _, ldS (vs := x.enc) hcl (by kernel_rfl), newV (us := x.enc) rfl rfl size_ru rfl fun h2 e2 c2 b2 z2 => ⟨_, _, ldS ((cd.ext e).ext e2) (by kernel_rfl), _, _, ldS (Rul.cl_dst c2) (by kernel_rfl), Within_s d x.dst fun h3 e3 => ⟨_, rfl, ?_⟩⟩⟩
      rw [wrapN (i := j) (by omega), wrapN (by omega)]
      have := ih' h3 ((e.trans e2).trans e3)
      cases hw : withinB d x.dst
      · rw [if_neg (by rw [hw]; decide), Nat.add_zero] at this
        exact br_f rfl this
      · rw [if_pos hw, ← Nat.add_assoc] at this
        exact br_t rfl this
    · have hi' : j = L.length := by simp at q; omega
      subst hi'
      rw [List.take_length]
      exact H h e
theorem Prune_l6 {h1 : Hp} {A8 : Option Addr} {l8 c8 : Nat} {L : List Rul} {B : Option Addr} {e' : Nat} {U : List Pf} {Q : Option Addr} {q' : Nat} {A9 : Option Addr} {l9 c9 : Nat} {x43 x44 : Int} (rL : RSl h1 B L.length 12 (L.flatMap Rul.enc)) (hL : L.length ≤ 64) (rU : RSl h1 Q U.length 2 (U.flatMap Pf.enc)) (hU : U.length ≤ 64) {n0 : Nat} (hn0 : n0 ≤ 500000)
    {K0 : (Option Addr) → Nat → Nat → Int → (Option Addr) → Nat → Nat → Int → Int → Hp → Prop} (H : ∀ h', Ext h1 h' → K0 A8 l8 c8 ((n0 + (U.map (cntD L)).sum : Nat) : Int) A9 l9 c9 x43 x44 h') :
    ∀ (k j : Nat) (h : Hp), U.length - j < k → j ≤ U.length → Ext h1 h → nest_Prune_l6 A8 l8 c8 B L.length e' A9 l9 c9 x43 x44 Q U.length q' (U.length : Int) K0 k ((n0 + ((U.take j).map (cntD L)).sum : Nat) : Int) (j : Int) h := by
  intro k
  induction k with
  | zero => intro j h hk; omega
  | succ k ih =>
    intro j h hk hj e
    unfold nest_Prune_l6
    refine br_i (fun q => ?_) (fun q => ?_)
    · have hlt : j < U.length := by simpa using q
      have hx := List.getElem?_eq_getElem hlt
      generalize U[j] = d at hx
      have hst := sum1 hx (cntD L)
      have hb := sum_bd (cntD L) 64 (U.take j) fun d _ => Nat.le_trans (cntD_le L d) hL
      have htl : (U.take j).length ≤ 64 := by rw [List.length_take]; omega
      have hb2 : (U.take j).length * 64 ≤ 64 * 64 := Nat.mul_le_mul_right _ htl
      obtain ⟨a, hix, hcl⟩ := ixPf (c := q') (rU.ext e) hx
      refine ⟨_, hix, _, _, ldS hcl (by kernel_rfl), newV (us := d.enc) rfl rfl size_pf rfl fun h2 e2 c2 b2 z2 => ⟨L.length + 1, ?_⟩⟩
      have := Prune_l7 (h1 := h2) (A8 := A8) (l8 := l8) (c8 := c8) (e' := e') (A9 := A9) (l9 := l9) (c9 := c9) (x43 := x43) (x44 := x44) (A10 := Q) (l10 := U.length) (c10 := q') (x46 := (U.length : Int)) (x47 := (j : Int)) (rL.ext (e.trans e2)) hL c2 (n0 := n0 + ((U.take j).map (cntD L)).sum) (by omega)
        (K0 := fun A406 l406 c406 x407 A408 l408 c408 A409 l409 c409 x410 x411 A412 l412 c412 x413 x414 h415 => nest_Prune_l6 A8 l8 c8 B L.length e' A9 l9 c9 x43 x44 Q U.length q' (U.length : Int) K0 k x407 (IntKind.i64.wrap (x414 + 1)) h415) (fun h3 e3 => by
          rw [wrapN (by omega), Nat.add_assoc, ← hst]
          exact ih (j + 1) h3 (by omega) (by omega) ((e.trans e2).trans e3)) (L.length + 1) 0 h2 (by omega) (by omega) (Ext.refl _)
      exact this
    · have hi' : j = U.length := by simp at q; omega
      subst hi'
      rw [List.take_length]
      exact H h e
theorem Prune_l4 {h1 : Hp} {U : List Pf} {B : Option Addr} {d : Nat} (r : RSl h1 A l.length 12 (l.flatMap Rul.enc)) (hl : l.length ≤ 64) (rU : RSl h1 B U.length 2 (U.flatMap Pf.enc)) (hU : U.length ≤ 64) {K0 : Int → Hp → Prop}
    (H : ∀ h', Ext h1 h' → K0 (((U.map (pruneS l)).sum : Nat) : Int) h') :
    ∀ (k i : Nat) (h : Hp), U.length - i < k → i ≤ U.length → Ext h1 h → nest_Prune_l4 A l.length c B U.length d (U.length : Int) K0 k ((((U.take i).map (pruneS l)).sum : Nat) : Int) (i : Int) h := by
  intro k
  induction k with
  | zero => intro i h hk; omega
  | succ k ih =>
    intro i h hk hi e
    unfold nest_Prune_l4
    refine br_i (fun q => ?_) (fun q => ?_)
    · have hlt : i < U.length := by simpa using q
      have hx := List.getElem?_eq_getElem hlt
      generalize U[i] = s at hx
      have hst := sum1 hx (pruneS l)
      have hb := sum_bd (pruneS l) (64 * 64) (U.take i) fun s _ => pruneS_le hl s
      have htl : (U.take i).length ≤ 64 := by rw [List.length_take]; omega
      have hb2 : (U.take i).length * (64 * 64) ≤ 64 * (64 * 64) := Nat.mul_le_mul_right _ htl
      obtain ⟨a, hix, hcl⟩ := ixPf (c := d) (rU.ext e) hx
      refine ⟨_, hix, _, _, ldS hcl (by kernel_rfl), newV (us := s.enc) rfl rfl size_pf rfl fun h2 e2 c2 b2 z2 => ⟨_, _, ldS c2 (by kernel_rfl), holders_s s (r.ext (e.trans e2)) (by omega) fun h3 Q q e3 r3 hF3 => ⟨_, _, _, rfl, ?_⟩⟩⟩
      have hh := held_le l s
      refine unlikeR_s (of := Rul.dst) r3.read (by omega) (by kernel_rfl) (fun x h K HK => dst_s x HK) fun h4 V v vs e4 hn hm hvl r4 hF4 => ⟨_, _, _, rfl, vs.length + 1, ?_⟩
      have e24 := ((e.trans e2).trans e3).trans e4
      have := Prune_l6 (h1 := h4) (A8 := A) (l8 := l.length) (c8 := c) (e' := q) (q' := v) (A9 := B) (l9 := U.length) (c9 := d) (x43 := (U.length : Int)) (x44 := (i : Int)) (r3.ext e4).read (by omega) r4.read (by omega) (n0 := ((U.take i).map (pruneS l)).sum) (by omega)
        (K0 := fun A417 l417 c417 x418 A419 l419 c419 x420 x421 h422 => nest_Prune_l4 A l.length c B U.length d (U.length : Int) K0 k x418 (IntKind.i64.wrap (x421 + 1)) h422) (fun h5 e5 => by
          rw [sum_uq hn hm]
          show nest_Prune_l4 A l.length c B U.length d (U.length : Int) K0 k ((((U.take i).map (pruneS l)).sum + pruneS l s : Nat) : Int) (IntKind.i64.wrap ((i : Int) + 1)) h5
          rw [wrapN (by omega), ← hst]
          exact ih (i + 1) h5 (by omega) (by omega) (e24.trans e5)) (vs.length + 1) 0 h4 (by omega) (by omega) (Ext.refl _)
      exact this
    · have hi' : i = U.length := by simp at q; omega
      subst hi'
      rw [List.take_length]
      exact H h e
theorem Prune_s (r : RSl h0 A l.length 12 (l.flatMap Rul.enc)) (hl : l.length ≤ 1000000000) (hc : l.length ≤ c) {K : Value → Hp → Prop}
    (H : ∀ h', Ext h0 h' → K (.tuple #[.int .i64 (if listE l = 0 then (pruneN l : Int) else 0), .int .i64 (listE l)]) h') : CallsH Tryz.prog 71 #[.slice A l.length c] h0 K := by
  refine nest_Prune_ok _ _ _ ?_
  unfold nest_Prune
  refine list_s r hl hc fun h1 e1 => ⟨_, rfl, br_i (fun u => ?_) (fun u => ?_)⟩
  · have u : listE l ≠ 0 := by simpa using u
    have := H h1 e1
    rw [if_neg u] at this
    exact this
  · have u : listE l = 0 := by simpa using u
    have h64 := listE_len u
    refine unlikeR_s (of := Rul.src) (r.ext e1) hl (by kernel_rfl) (fun x h K HK => src_s x HK) fun h2 B d us e2 hn hm hul r2 hF2 => ⟨_, _, _, rfl, us.length + 1, ?_⟩
    refine Prune_l4 (h1 := h2) (r.ext (e1.trans e2)) h64 r2.read (by omega) (fun h3 e3 => ?_) (us.length + 1) 0 h2 (by omega) (by omega) (Ext.refl _)
    have := H h3 ((e1.trans e2).trans e3)
    rw [if_pos u, u] at this
    unfold pruneN at this
    rw [sum_uq hn hm]
    exact this
/-! ### Tuple -/
end
end Go.Proofs.YtomhkbhgpmcbiaaGreat.Fs
