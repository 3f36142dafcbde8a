/- Calls, rules, headers as arguments. -/
import Derived.Test.YtomhkbhgpmcbiaaGreatPnPlay
import Derived.Test.YtomhkbhgpmcbiaaGreatRuRows
import Derived.Test.YtomhkbhgpmcbiaaGreatSxOpen3
namespace Go.Proofs.YtomhkbhgpmcbiaaGreat.Fs
open Go Go.RowKit Go.Proofs.YtomhkbhgpmcbiaaGreat.Sx
set_option linter.unusedVariables false
def opK : List (IntKind ⊕ List IntKind) := [.inl .i64, .inl .i64, .inl .i64, .inl .i64, .inl .u32, .inl .i64, .inl .u32, .inl .i64, .inl .u16, .inl .u16, .inl .u16, .inl .u16, .inl .u8, .inl .u8, .inl .i64, .inl .u32, .inl .u32, .inl .u16, .inl .u16, .inl .u8, .inr rulK]
theorem toRul_wf : ∀ (ns : List Int), ns.length = 12 → (∀ p ∈ rulK.zip ns, (Lit.int p.1 p.2).wf = true) → (toRul ns).wf
  | [n0, n1, n2, n3, n4, n5, n6, n7, n8, n9, n10, n11], _, h => ⟨wf_u32 (h (.u32, n1) (by simp [rulK])), wf_u32 (h (.u32, n3) (by simp [rulK])), wf_u8 (h (.u8, n9) (by simp [rulK])), wf_u8 (h (.u8, n10) (by simp [rulK]))⟩
theorem opr_of {h : Hp} {cs : List Value} (q : Fits2 h opK cs) : ∃ (o : Opr) (zs : List Rul), cs = o.enc ∧ OpOK h o zs := by
  unfold opK at q
  obtain ⟨a0, cs, rfl, w0, q⟩ := q.int_inv
  obtain ⟨a1, cs, rfl, w1, q⟩ := q.int_inv
  obtain ⟨a2, cs, rfl, w2, q⟩ := q.int_inv
  obtain ⟨r0, cs, rfl, x0, q⟩ := q.int_inv
  obtain ⟨r1, cs, rfl, x1, q⟩ := q.int_inv
  obtain ⟨r2, cs, rfl, x2, q⟩ := q.int_inv
  obtain ⟨r3, cs, rfl, x3, q⟩ := q.int_inv
  obtain ⟨r4, cs, rfl, x4, q⟩ := q.int_inv
  obtain ⟨r5, cs, rfl, x5, q⟩ := q.int_inv
  obtain ⟨r6, cs, rfl, x6, q⟩ := q.int_inv
  obtain ⟨r7, cs, rfl, x7, q⟩ := q.int_inv
  obtain ⟨r8, cs, rfl, x8, q⟩ := q.int_inv
  obtain ⟨r9, cs, rfl, x9, q⟩ := q.int_inv
  obtain ⟨r10, cs, rfl, x10, q⟩ := q.int_inv
  obtain ⟨r11, cs, rfl, x11, q⟩ := q.int_inv
  obtain ⟨b0, cs, rfl, y0, q⟩ := q.int_inv
  obtain ⟨b1, cs, rfl, y1, q⟩ := q.int_inv
  obtain ⟨b2, cs, rfl, y2, q⟩ := q.int_inv
  obtain ⟨b3, cs, rfl, y3, q⟩ := q.int_inv
  obtain ⟨b4, cs, rfl, y4, q⟩ := q.int_inv
  obtain ⟨A, rows, c, cs, rfl, hr, hc, wf, q⟩ := q.sl_inv
  obtain rfl := q.nil_inv
  refine ⟨⟨a0, a1, a2, ⟨r0, r1, r2, r3, r4, r5, r6, r7, r8, r9, r10, r11⟩, ⟨b0, b1, b2, b3, b4⟩, A, rows.length, c⟩, rows.map toRul, rfl, by simp, hc, by rw [List.length_map]; exact rows_of hr wf, fun x hx => ?_, ⟨wf_u32 x1, wf_u32 x3, wf_u8 x9, wf_u8 x10⟩, ⟨wf_u32 y0, wf_u32 y1, wf_u8 y4⟩⟩
  obtain ⟨ns, hn, rfl⟩ := List.mem_map.1 hx
  exact toRul_wf ns (wf ns hn).1 (wf ns hn).2
def hdrK : List IntKind := [.u32, .u32, .u16, .u16, .u8]
def toHdr (ns : List Int) : Hdr := ⟨ns.getD 0 0, ns.getD 1 0, ns.getD 2 0, ns.getD 3 0, ns.getD 4 0⟩
theorem toHdr_wf : ∀ ns : List Int, ns.length = 5 → (∀ p ∈ hdrK.zip ns, (Lit.int p.1 p.2).wf = true) → List.zipWith Value.int hdrK ns = (toHdr ns).enc ∧ (toHdr ns).wf
  | [a, b, c, d, e], _, h => ⟨rfl, wf_u32 (h (.u32, a) (by simp [hdrK])), wf_u32 (h (.u32, b) (by simp [hdrK])), wf_u8 (h (.u8, e) (by simp [hdrK]))⟩
theorem hdrRows {h : Hp} {A : Option Addr} {l : List (List Int)} (r : RSl h A l.length 5 (l.flatMap (List.zipWith Value.int hdrK))) (wf : ∀ ns ∈ l, ns.length = hdrK.length ∧ ∀ p ∈ hdrK.zip ns, (Lit.int p.1 p.2).wf = true) :
    RSl h A (l.map toHdr).length 5 ((l.map toHdr).flatMap Hdr.enc) ∧ ∀ x, x ∈ l.map toHdr → x.wf := by
  have e : (l.map toHdr).flatMap Hdr.enc = l.flatMap (List.zipWith Value.int hdrK) := by
    clear r
    induction l with
    | nil => rfl
    | cons ns l ih =>
      rw [List.map_cons, List.flatMap_cons, List.flatMap_cons, ih fun x hx => wf x (List.mem_cons_of_mem _ hx)]
      obtain ⟨h1, h2⟩ := wf ns (List.mem_cons_self ..)
      rw [(toHdr_wf ns h1 h2).1]
  refine ⟨by rw [List.length_map, e]; exact r, fun x hx => ?_⟩
  obtain ⟨ns, hn, rfl⟩ := List.mem_map.1 hx
  obtain ⟨h1, h2⟩ := wf ns hn
  exact (toHdr_wf ns h1 h2).2
theorem ruRows {h : Hp} {A : Option Addr} {l : List (List Int)} (r : RSl h A l.length 12 (l.flatMap (List.zipWith Value.int rulK))) (wf : ∀ ns ∈ l, ns.length = rulK.length ∧ ∀ p ∈ rulK.zip ns, (Lit.int p.1 p.2).wf = true) :
    RSl h A (l.map toRul).length 12 ((l.map toRul).flatMap Rul.enc) ∧ ∀ x, x ∈ l.map toRul → x.wf := by
  refine ⟨by rw [List.length_map]; exact rows_of r wf, fun x hx => ?_⟩
  obtain ⟨ns, hn, rfl⟩ := List.mem_map.1 hx
  exact toRul_wf ns (wf ns hn).1 (wf ns hn).2
end Go.Proofs.YtomhkbhgpmcbiaaGreat.Fs
