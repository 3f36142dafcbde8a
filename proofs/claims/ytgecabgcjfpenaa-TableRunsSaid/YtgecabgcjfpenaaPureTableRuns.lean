/-
TableRuns: for any configuration and any calls a table answers each as the list of rules would have it; clones go ways of their own.
Conditions: none beyond the statement's own.
-/
import Derived.Test.YtgecabgcjfpenaaTRuns6
import Derived.Test.YtgecabgcjfpenaaTRows
import Derived.Test.YtgecabgcjfpenaaSxOpen3
namespace Go.Proofs.Ytgecabgcjfpenaa.PureTableRuns
open Go Go.RowKit Go.Proofs.Ytgecabgcjfpenaa.Sx Go.Proofs.Ytgecabgcjfpenaa.Fs
set_option linter.unusedVariables false
def opK : List (IntKind ⊕ List IntKind) := [.inl .i64, .inl .i64, .inl .i64, .inl .i64, .inl .u32, .inl .i64, .inl .u32, .inl .i64, .inl .u16, .inl .u16, .inl .u16, .inl .u16, .inl .u8, .inl .u8, .inl .i64, .inl .u32, .inl .u32, .inl .u16, .inl .u16, .inl .u8, .inr rulK]
theorem toRul_wf : ∀ (ns : List Int), ns.length = 12 → (∀ p ∈ rulK.zip ns, (Lit.int p.1 p.2).wf = true) → (toRul ns).wf
  | [n0, n1, n2, n3, n4, n5, n6, n7, n8, n9, n10, n11], _, h => ⟨wf_u32 (h (.u32, n1) (by simp [rulK])), wf_u32 (h (.u32, n3) (by simp [rulK])), wf_u8 (h (.u8, n9) (by simp [rulK])), wf_u8 (h (.u8, n10) (by simp [rulK]))⟩
theorem opr_of {h : Hp} {cs : List Value} (q : Fits2 h opK cs) : ∃ (o : Opr) (zs : List Rul), cs = o.enc ∧ OpOK h o zs := by
  unfold opK at q
  obtain ⟨a0, cs, rfl, w0, q⟩ := q.int_inv
  obtain ⟨a1, cs, rfl, w1, q⟩ := q.int_inv
  obtain ⟨a2, cs, rfl, w2, q⟩ := q.int_inv
  obtain ⟨r0, cs, rfl, x0, q⟩ := q.int_inv
  obtain ⟨r1, cs, rfl, x1, q⟩ := q.int_inv
  obtain ⟨r2, cs, rfl, x2, q⟩ := q.int_inv
  obtain ⟨r3, cs, rfl, x3, q⟩ := q.int_inv
  obtain ⟨r4, cs, rfl, x4, q⟩ := q.int_inv
  obtain ⟨r5, cs, rfl, x5, q⟩ := q.int_inv
  obtain ⟨r6, cs, rfl, x6, q⟩ := q.int_inv
  obtain ⟨r7, cs, rfl, x7, q⟩ := q.int_inv
  obtain ⟨r8, cs, rfl, x8, q⟩ := q.int_inv
  obtain ⟨r9, cs, rfl, x9, q⟩ := q.int_inv
  obtain ⟨r10, cs, rfl, x10, q⟩ := q.int_inv
  obtain ⟨r11, cs, rfl, x11, q⟩ := q.int_inv
  obtain ⟨b0, cs, rfl, y0, q⟩ := q.int_inv
  obtain ⟨b1, cs, rfl, y1, q⟩ := q.int_inv
  obtain ⟨b2, cs, rfl, y2, q⟩ := q.int_inv
  obtain ⟨b3, cs, rfl, y3, q⟩ := q.int_inv
  obtain ⟨b4, cs, rfl, y4, q⟩ := q.int_inv
  obtain ⟨A, rows, c, cs, rfl, hr, hc, wf, q⟩ := q.sl_inv
  obtain rfl := q.nil_inv
  refine ⟨⟨a0, a1, a2, ⟨r0, r1, r2, r3, r4, r5, r6, r7, r8, r9, r10, r11⟩, ⟨b0, b1, b2, b3, b4⟩, A, rows.length, c⟩, rows.map toRul, rfl, by simp, hc, rows_of hr wf, fun x hx => ?_, ⟨wf_u32 x1, wf_u32 x3, wf_u8 x9, wf_u8 x10⟩, ⟨wf_u32 y0, wf_u32 y1, wf_u16 y2, wf_u16 y3, wf_u8 y4⟩⟩
  obtain ⟨ns, hn, rfl⟩ := List.mem_map.1 hx
  exact toRul_wf ns (wf ns hn).1 (wf ns hn).2
theorem walk {W : World} (a0 a1 a2 a3 a4 a5 a6 : Int) (w0 : (Lit.int .i64 a0).wf = true) (w1 : (Lit.int .i64 a1).wf = true) (w2 : (Lit.int .i64 a2).wf = true) (w3 : (Lit.int .i64 a3).wf = true) (w4 : (Lit.int .i64 a4).wf = true) (w5 : (Lit.int .i64 a5).wf = true) (w6 : (Lit.int .i64 a6).wf = true)
    (A : Option Addr) (L : List {cs : List Value // Fits2 W.heap opK cs}) (c : Nat) (hr : RSl W.heap A L.length 21 (L.flatMap (·.1))) :
    Calls Try.prog 7 #[.agg #[.int .i64 a0, .int .i64 a1, .int .i64 a2, .int .i64 a3, .int .i64 a4, .int .i64 a5, .int .i64 a6], .slice A L.length c] W fun e w' => e = .returned (.bool true) ∧ Below W.heap.size W w' := by
  let f : {cs : List Value // Fits2 W.heap opK cs} → Opr := fun x => Classical.choose (opr_of x.2)
  have hf : ∀ x : {cs : List Value // Fits2 W.heap opK cs}, ∃ zs, x.1 = (f x).enc ∧ OpOK W.heap (f x) zs := fun x => Classical.choose_spec (opr_of x.2)
  have he : L.flatMap (·.1) = (L.map f).flatMap Opr.enc := by
    rw [List.flatMap_map]
    congr 1
    funext x
    exact (hf x).choose_spec.1
  rw [he] at hr
  refine walk_of (TableRuns_s ⟨a0, a1, a2, a3, a4, a5, a6⟩ (L.map f) (by simp) hr (fun o ho => ?_) fun h' e => ⟨rfl, e⟩)
  obtain ⟨x, _, rfl⟩ := List.mem_map.1 ho
  obtain ⟨zs, _, ok⟩ := hf x
  exact ⟨zs, ok⟩
end Go.Proofs.Ytgecabgcjfpenaa.PureTableRuns
