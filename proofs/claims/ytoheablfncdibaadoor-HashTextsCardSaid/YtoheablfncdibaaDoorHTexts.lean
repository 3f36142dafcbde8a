/- HashTexts: two tables of texts, one with its keys turned: what is put last under a key is what is got. -/
import Derived.Test.YtoheablfncdibaaDoorHaAbS
import Derived.Test.YtoheablfncdibaaDoorHSpec2
import Derived.Test.YtoheablfncdibaaDoorShelf
import Derived.Test.YtoheablfncdibaaDoorSxPart
import Derived.Lib.LaidTab
namespace Go.Proofs.YtoheablfncdibaaDoor.FsS
open Go Go.RowKit Go.Sort Go.Proofs.YtoheablfncdibaaDoor.Sx Go.Proofs.YtoheablfncdibaaDoor.Fs
set_option linter.unusedVariables false
set_option linter.unusedSimpArgs false
set_option maxRecDepth 10000
/-! ### The library's table, strconv.Itoa -/
noncomputable def powCells : Array Value := (Lib.pow10Tab.map fun z => Value.int .u64 z).toArray
/-- The table of the powers of ten lies in the heap. -/
def Tab (h : Hp) : Prop := ∃ t f, h[0]? = some (.cells powCells t f)
theorem Tab.ext {h h' : Hp} (t : Tab h) (e : Ext h h') : Tab h' := by
  obtain ⟨T, f, hb⟩ := t
  exact ⟨T, f, by rw [e.old _ (lt_of_get hb)]; exact hb⟩
theorem glob : Tryd.prog.globalNamed "internal/strconv.uint64pow10" = some 0 := by kernel_rfl
theorem tab_of {w : World} (h : Lib.TabIs Tryd.prog w "internal/strconv.uint64pow10" .u64 Lib.pow10Tab) : Tab w.heap := by
  unfold Lib.TabIs World.var? at h
  rw [glob] at h
  simp only [Option.bind_some] at h
  split at h
  · rename_i cs T f hb
    injection h with h
    rw [h] at hb
    exact ⟨T, f, hb⟩
  · cases h
theorem of_tab {w : World} (h : Tab w.heap) : Lib.TabIs Tryd.prog w "internal/strconv.uint64pow10" .u64 Lib.pow10Tab := by
  obtain ⟨T, f, hb⟩ := h
  unfold Lib.TabIs World.var?
  rw [glob]
  simp only [Option.bind_some]
  rw [hb]
  rfl
theorem itoa_s {h : Hp} (t : Tab h) (n : Int) (h0 : -9223372036854775808 ≤ n) (h1 : n ≤ 9223372036854775807) {K : Value → Hp → Prop} (H : ∀ h' s, Ext h h' → K (.string s) h') : CallsH Tryd.prog 5 #[.int .i64 n] h K := fun w hw => by
  subst hw
  refine (Tryd.strconv_Itoa n h0 h1 w (of_tab t)).mono fun e w' hh => ?_
  obtain ⟨he, k, os, hw'⟩ := hh
  subst hw'
  refine ⟨_, he, ⟨rfl, rfl, rfl, Nat.le_add_right _ _⟩, H _ _ ⟨?_, fun k hk => ?_⟩⟩
  · show w.heap.size ≤ (w.heap ++ os).size
    rw [Array.size_append]; omega
  · show (w.heap ++ os)[k]? = _
    rw [Array.getElem?_append_left hk]
/-! ### Keys turned -/
def Hdr.turn (k : Hdr) : Hdr := { k with src := 4294967295 - k.src }
theorem turn_iff (a b : Hdr) : a.turn = b.turn ↔ a = b := by
  obtain ⟨a1, a2, a3, a4, a5⟩ := a
  obtain ⟨b1, b2, b3, b4, b5⟩ := b
  simp only [Hdr.turn, Hdr.mk.injEq]
  omega
theorem bnot (x : Int) (h0 : 0 ≤ x) (h1 : x < 4294967296) : bXor .u32 4294967295 x = 4294967295 - x := by
  obtain ⟨n, rfl⟩ := Int.eq_ofNat_of_zero_le h0
  have hn : n < 2 ^ 32 := by omega
  unfold bXor
  have e1 : BitVec.ofInt IntKind.u32.bits 4294967295 = BitVec.allOnes 32 := by show BitVec.ofInt 32 4294967295 = BitVec.allOnes 32; decide
  have e2 : BitVec.ofInt IntKind.u32.bits (n : Int) = BitVec.ofNat 32 n := by rw [BitVec.ofInt_natCast]; rfl
  have e3 : (BitVec.allOnes 32 ^^^ BitVec.ofNat 32 n) = ~~~ (BitVec.ofNat 32 n) := BitVec.allOnes_xor
  have e4 : (~~~ (BitVec.ofNat 32 n)).toNat = 4294967295 - n := by
    rw [BitVec.toNat_not, BitVec.toNat_ofNat, Nat.mod_eq_of_lt hn]
  have e : (BitVec.ofInt IntKind.u32.bits 4294967295 ^^^ BitVec.ofInt IntKind.u32.bits (n : Int)).toNat = 4294967295 - n := by
    rw [e1, e2]
    exact (congrArg BitVec.toNat e3).trans e4
  rw [e]
  simp [IntKind.wrap, IntKind.bits, IntKind.signed]
  omega
structure OpH where
  kind : Int
  k : Hdr
  v : Int
def OpH.enc (o : OpH) : List Value := [.int .i64 o.kind, .int .u32 o.k.src, .int .u32 o.k.dst, .int .u16 o.k.sp, .int .u16 o.k.dp, .int .u8 o.k.pr, .int .i64 o.v]
theorem OpH.len (o : OpH) : o.enc.length = 7 := rfl
theorem OpH.flat (o : OpH) : o.enc.all flatV = true := rfl
def OpH.ok (o : OpH) : Prop := 0 ≤ o.k.src ∧ o.k.src < 4294967296 ∧ -9223372036854775808 ≤ o.v ∧ o.v ≤ 9223372036854775807
theorem und_op : Tryd.prog.underlying 22 = some (.slice 32) := by kernel_rfl
theorem size_op : (Tryd.prog.info? 32).map (·.size) = some 7 := by kernel_rfl
theorem hdrSz : (Tryd.prog.info? 26).map (·.size) = some 5 := by kernel_rfl
theorem HB.lt {h : Hp} {b : Nat} {S : Nat → Prop} {m : Int} {M : Hdr → Option ByteArray} {n l : Nat} (q : HB h b S m M n l) : ∀ k, S k → k < h.size := by
  obtain ⟨t, q, _⟩ := q
  exact q.2.1
theorem box_src {h : Hp} {bk : Nat} {g : Hdr} (hb : h[bk]? = some (.cells g.enc.toArray 26 (0, 0))) (x : Int) {K : Hp → Prop} (H : ∀ h', h'[bk]? = some (.cells ({ g with src := x } : Hdr).enc.toArray 26 (0, 0)) → Fr (fun k => k = bk) h h' → h'.size = h.size → K h') : HU Tryd.prog (Instr.storeAt 23 (.pointer (some ⟨bk, 0, none⟩)) (.int .u32 x)) h K := by
  refine HU_st (us := [.int .u32 x]) hb rfl (by kernel_rfl) (by simp [Hdr.enc]) rfl ?_
  have e : g.enc.take 0 ++ [.int .u32 x] ++ g.enc.drop (0 + [Value.int .u32 x].length) = ({ g with src := x } : Hdr).enc := rfl
  rw [e]
  exact H _ (setB_get (lt_of_get hb)) (setB_fr rfl) setB_size
/-- A put where there is room. -/
theorem hput_u {h : Hp} {b : Nat} {S : Nat → Prop} {m : Int} {M : Hdr → Option ByteArray} {n l : Nat} (q : HB h b S m M n l) (k : Hdr) (v : ByteArray) (hr : (n : Int) < m) {K : Value → Hp → Prop}
    (H : ∀ h' S' l', HB h' b S' m (upd M k (some v)) (if (M k).isSome then n else n + 1) l' → Tg S S' h h' → K (.int .i64 0) h') :
    CallsH Tryd.prog 7 #[.pointer (some ⟨b, 0, none⟩), k.val, .string v] h K := by
  refine hput_a q k v (fun w hM h' q' f => H h' S l ?_ (Fr.tg f)) (fun hM hle => by omega) (fun hM _ h' S' l' q' t _ => H h' S' l' ?_ t)
  · rw [hM]; exact q'
  · rw [hM]; exact q'
/-- The two tables between two calls. -/
structure XS (h0 h : Hp) (bt bu : Nat) (n : Nat) (last : ByteArray) (is : Bool) (k : Hdr) (St Su : Nat → Prop) (Mt Mu : Hdr → Option ByteArray) (lt lu : Nat) : Prop where
  e : Ext h0 h
  qt : HB h bt St 65536 Mt n lt
  qu : HB h bu Su 65536 Mu n lu
  hSt : ∀ k, St k → h0.size ≤ k
  hSu : ∀ k, Su k → h0.size ≤ k
  ap : ∀ k, St k → ¬ Su k
  tw : ∀ g : Hdr, Mu g.turn = Mt g
  la : last = (Mt k).getD zb
  isk : is = (Mt k).isSome
theorem XS.ext {h0 h h' : Hp} {bt bu n : Nat} {last : ByteArray} {is : Bool} {k : Hdr} {St Su : Nat → Prop} {Mt Mu : Hdr → Option ByteArray} {lt lu : Nat} (s : XS h0 h bt bu n last is k St Su Mt Mu lt lu) (e : Ext h h') : XS h0 h' bt bu n last is k St Su Mt Mu lt lu :=
  ⟨s.e.trans e, s.qt.ext e, s.qu.ext e, s.hSt, s.hSu, s.ap, s.tw, s.la, s.isk⟩
theorem upd_turn {Mt Mu : Hdr → Option ByteArray} (tw : ∀ g : Hdr, Mu g.turn = Mt g) (k : Hdr) (v : Option ByteArray) : ∀ g : Hdr, upd Mu k.turn v g.turn = upd Mt k v g := fun g => by
  unfold upd
  by_cases hg : g = k
  · rw [if_pos hg, if_pos (by rw [hg])]
  · rw [if_neg hg, if_neg (fun e => hg ((turn_iff _ _).1 e)), tw]
theorem texts_l3 {h0 : Hp} (tab : Tab h0) {bt bu : Nat} {As : Option Addr} {cs : Nat} {os : List OpH} (rs : RSl h0 As os.length 7 (os.flatMap OpH.enc)) (hos : os.length ≤ 3000) (hw : ∀ o, o ∈ os → o.ok) {k : Hdr} {ka : Addr} (hk : Cl h0 ka k.enc) {K0 : Bool → Hp → Prop} {K1 : Addr → (Option Addr) → (Option Addr) → ByteArray → Bool → Hp → Prop}
    (H : ∀ h n last is St Su Mt Mu lt lu, XS h0 h bt bu n last is k St Su Mt Mu lt lu → K1 ka (some ⟨bt, 0, none⟩) (some ⟨bu, 0, none⟩) last is h) :
    ∀ (rest done : List OpH) (h : Hp) (n : Nat) (last : ByteArray) (is : Bool) (St Su : Nat → Prop) (Mt Mu : Hdr → Option ByteArray) (lt lu : Nat), os = done ++ rest → n ≤ done.length → XS h0 h bt bu n last is k St Su Mt Mu lt lu →
      quintetlaw15_HashTexts_l3 As os.length cs ka (some ⟨bt, 0, none⟩) (some ⟨bu, 0, none⟩) K0 K1 (rest.length + 1) last is (done.length : Int) h := by
  intro rest
  induction rest with
  | nil =>
    intro done h n last is St Su Mt Mu lt lu he hn s
    unfold quintetlaw15_HashTexts_l3
    have : os.length = done.length := by rw [he]; simp
    exact br_f (by simp; omega) (H h n last is St Su Mt Mu lt lu s)
  | cons o rest ih =>
    intro done h n last is St Su Mt Mu lt lu he hn s
    unfold quintetlaw15_HashTexts_l3
    have hlen : os.length = done.length + (rest.length + 1) := by rw [he]; simp
    have ho : os[done.length]? = some o := by rw [he]; simp
    obtain ⟨w0, w1, w2, w3⟩ := hw o (List.mem_of_getElem? ho)
    refine br_t (by simp; omega) ?_
    obtain ⟨a, _, _, hix, hcl⟩ := ixR (P := Tryd.prog) (T := 22) (E := 32) (k := .i64) (c := cs) OpH.len (rs.ext s.e) rfl und_op size_op ho
    refine ⟨_, hix, _, _, _, _, _, _, _, ldS (vs := o.enc) hcl (by kernel_rfl), ?_⟩
    refine newV (us := o.enc) rfl rfl (by kernel_rfl) o.flat fun h1 e1 k1 b1 z1 => ?_
    have hidx : IntKind.i64.wrap ((done.length : Int) + 1) = ((done ++ [o]).length : Int) := by
      rw [wrap_in (by omega) (by omega)]; simp
    have he' : os = (done ++ [o]) ++ rest := by rw [he]; simp
    have ih' : ∀ (h : Hp) (n : Nat) (last : ByteArray) (is : Bool) (St Su : Nat → Prop) (Mt Mu : Hdr → Option ByteArray) (lt lu : Nat), n ≤ done.length + 1 → XS h0 h bt bu n last is k St Su Mt Mu lt lu →
        quintetlaw15_HashTexts_l3 As os.length cs ka (some ⟨bt, 0, none⟩) (some ⟨bu, 0, none⟩) K0 K1 (rest.length + 1) last is (IntKind.i64.wrap ((done.length : Int) + 1)) h := fun h n last is St Su Mt Mu lt lu hn s => by
      rw [hidx]
      exact ih (done ++ [o]) h n last is St Su Mt Mu lt lu he' (by simpa using hn) s
    refine ⟨_, ld (k1.at_ 6 _ rfl) (by kernel_rfl), ?_⟩
    refine itoa_s (tab.ext (s.e.trans e1)) o.v w2 w3 fun h2 tx e2 => ⟨_, rfl, ?_⟩
    have k2 := k1.ext e2
    have s2 := s.ext (e1.trans e2)
    refine ⟨_, _, _, _, _, ldS (vs := o.k.enc) (Cl.sl k2 (n := 1) (us := o.k.enc) rfl) (by kernel_rfl), ?_⟩
    refine newV (us := o.k.enc) rfl rfl hdrSz rfl fun h3 e3 c3 b3 z3 => ?_
    refine ⟨_, ld c3.head (by kernel_rfl), ?_⟩
    rw [bnot _ w0 w1]
    refine box_src (g := o.k) b3 _ fun h4 b4 f4 z4 => ?_
    have e4 : Ext h2 h4 := extOwn e3 f4 (fun k hk => by subst hk; exact Nat.le_refl _)
    have s4 := s2.ext e4
    have k4 : Cl h4 ⟨h.size, 0, none⟩ o.enc := k2.ext e4
    have b4' : h4[h2.size]? = some (.cells o.k.turn.enc.toArray 26 (0, 0)) := b4
    have g4 : Cl h4 ⟨h2.size, 0, none⟩ o.k.turn.enc := Cl.of_block b4' fun j v hj => by rw [Nat.zero_add]; exact hj
    have nA : ¬ St h.size := fun hs => by have := s.qt.lt _ hs; omega
    have nB : ¬ Su h.size := fun hs => by have := s.qu.lt _ hs; omega
    have nC : ¬ St h2.size := fun hs => by have := s2.qt.lt _ hs; omega
    have nD : ¬ Su h2.size := fun hs => by have := s2.qu.lt _ hs; omega
    refine ⟨_, ld k4.head (by kernel_rfl), br_i (fun p3 => ?_) (fun p3 => ?_)⟩
    · refine ⟨_, _, _, _, _, ldS (vs := o.k.enc) (Cl.sl k4 (n := 1) (us := o.k.enc) rfl) (by kernel_rfl), ?_⟩
      refine hdel_a s4.qt o.k fun h5 q5 f5 hn5 => ⟨_, rfl, _, _, _, _, _, ldS (vs := o.k.turn.enc) (f5.cl g4 nC) (by kernel_rfl), ?_⟩
      refine hdel_a (s4.qu.keep f5 (fun k hk hs => s.ap k hs hk)) o.k.turn fun h6 q6 f6 hn6 => ⟨_, rfl, ?_⟩
      rw [s.tw] at q6 ⊢
      refine br_f (by simp) ?_
      have q56 := q5.keep f6 (fun k hk => s.ap k hk)
      have E6 : Ext h0 h6 := extOwn (extOwn s4.e f5 s.hSt) f6 s.hSu
      have k6 : Cl h6 ⟨h.size, 0, none⟩ o.enc := f6.cl (f5.cl k4 nA) nB
      have hn' : (if (Mt o.k).isSome then n - 1 else n) ≤ done.length + 1 := by split <;> omega
      refine ⟨_, _, _, _, _, ldS (vs := o.k.enc) (Cl.sl k6 (n := 1) (us := o.k.enc) rfl) (by kernel_rfl), _, _, _, _, _, ldS (vs := k.enc) (hk.ext E6) (by kernel_rfl), _, eq71 _ _, br_i (fun ce => ?_) (fun ce => ?_)⟩
      · have ce : o.k = k := by simpa using ce
        refine ih' h6 _ _ _ St Su _ _ lt lu hn' ⟨E6, q56, q6, s.hSt, s.hSu, s.ap, upd_turn s.tw _ _, ?_, ?_⟩
        · unfold upd; rw [if_pos ce.symm]; rfl
        · unfold upd; rw [if_pos ce.symm]; rfl
      · have ce : ¬ o.k = k := by simpa using ce
        refine ih' h6 _ _ _ St Su _ _ lt lu hn' ⟨E6, q56, q6, s.hSt, s.hSu, s.ap, upd_turn s.tw _ _, ?_, ?_⟩
        · unfold upd; rw [if_neg (fun e => ce e.symm)]; exact s.la
        · unfold upd; rw [if_neg (fun e => ce e.symm)]; exact s.isk
    · refine ⟨_, _, _, _, _, ldS (vs := o.k.enc) (Cl.sl k4 (n := 1) (us := o.k.enc) rfl) (by kernel_rfl), ?_⟩
      refine hput_u s4.qt o.k tx (by omega) fun h5 St' lt' q5 t5 => ⟨_, rfl, _, _, _, _, _, ldS (vs := o.k.turn.enc) (t5.fr.cl g4 nC) (by kernel_rfl), ?_⟩
      have q4u := s4.qu.keep t5.fr (fun k hk hs => s.ap k hs hk)
      have z5 := t5.fr.size
      have nC' : ∀ j, St' j → ¬ Su j := fun j hj hs => by
        rcases t5.own j hj with h | h
        · exact s.ap j h hs
        · have := s4.qu.lt j hs; omega
      refine hput_u q4u o.k.turn tx (by omega) fun h6 Su' lu' q6 t6 => ⟨_, rfl, br_f rfl (br_f rfl ?_)⟩
      rw [s.tw] at q6
      have q56 := q5.keep t6.fr nC'
      have E6 : Ext h0 h6 := extOwn (extOwn s4.e t5.fr s.hSt) t6.fr s.hSu
      have k6 : Cl h6 ⟨h.size, 0, none⟩ o.enc := t6.fr.cl (t5.fr.cl k4 nA) nB
      have hn' : (if (Mt o.k).isSome then n else n + 1) ≤ done.length + 1 := by split <;> omega
      have sz0 := s4.e.size
      have hSt' : ∀ j, St' j → h0.size ≤ j := fun j hj => by
        rcases t5.own j hj with h | h
        · exact s.hSt j h
        · omega
      have hSu' : ∀ j, Su' j → h0.size ≤ j := fun j hj => by
        rcases t6.own j hj with h | h
        · exact s.hSu j h
        · omega
      have ap' : ∀ j, St' j → ¬ Su' j := fun j hj hs => by
        rcases t6.own j hs with h | h
        · exact nC' j hj h
        · have := q5.lt j hj; omega
      refine ⟨_, _, _, _, _, ldS (vs := o.k.enc) (Cl.sl k6 (n := 1) (us := o.k.enc) rfl) (by kernel_rfl), _, _, _, _, _, ldS (vs := k.enc) (hk.ext E6) (by kernel_rfl), _, eq71 _ _, br_i (fun ce => ?_) (fun ce => ?_)⟩
      · have ce : o.k = k := by simpa using ce
        refine ih' h6 _ _ _ St' Su' _ _ lt' lu' hn' ⟨E6, q56, q6, hSt', hSu', ap', upd_turn s.tw _ _, ?_, ?_⟩
        · unfold upd; rw [if_pos ce.symm]; rfl
        · unfold upd; rw [if_pos ce.symm]; rfl
      · have ce : ¬ o.k = k := by simpa using ce
        refine ih' h6 _ _ _ St' Su' _ _ lt' lu' hn' ⟨E6, q56, q6, hSt', hSu', ap', upd_turn s.tw _ _, ?_, ?_⟩
        · unfold upd; rw [if_neg (fun e => ce e.symm)]; exact s.la
        · unfold upd; rw [if_neg (fun e => ce e.symm)]; exact s.isk
theorem HashTexts_s {h : Hp} (tab : Tab h) (As : Option Addr) (cs : Nat) (os : List OpH) (rs : RSl h As os.length 7 (os.flatMap OpH.enc)) (hw : ∀ o, o ∈ os → o.ok) (k : Hdr) (k0 : 0 ≤ k.src) (k1 : k.src < 4294967296) {K : Value → Hp → Prop} (H : ∀ h', Ext h h' → K (.bool true) h') :
    CallsH Tryd.prog 3 #[.slice As os.length cs, k.val] h K := by
  refine quintetlaw15_HashTexts_ok _ _ _ _ _ _ _ _ ?_
  unfold quintetlaw15_HashTexts
  refine newC_i (cs := k.enc) fun h1 e1 c1 b1 z1 => br_i (fun _ => H h1 e1) (fun p => ?_)
  have p : ¬ (os.length : Int) > 3000 := by simpa using p
  refine hnew_a 65536 (fun hc => by omega) (fun _ h2 bt St e2 hSt q2 => ⟨_, _, rfl, ?_⟩)
  refine hnew_a 65536 (fun hc => by omega) (fun _ h3 bu Su e3 hSu q3 => ⟨_, _, rfl, _, eqNil eq22, br_f rfl ⟨_, eqNil eq22, br_f rfl (br_f rfl (br_f rfl ?_))⟩⟩)
  unfold quintetlaw15_HashTexts_j2
  refine ⟨os.length + 1, ?_⟩
  have z2 := e2.size
  refine texts_l3 (h0 := h1) (bt := bt) (bu := bu) (os := os) (tab.ext e1) (rs.ext e1) (by omega) hw (k := k) c1 (fun h4 n last is St4 Su4 Mt Mu lt lu s => ?_) os [] h3 0 zb false St Su (fun _ => none) (fun _ => none) 8 8 rfl (Nat.le_refl _) ⟨e2.trans e3, q2.ext e3, q3, hSt, fun k hk => by have := hSu k hk; omega, fun k hk hs => by have := hSu k hs; have := q2.lt k hk; omega, fun _ => rfl, rfl, rfl⟩
  refine ⟨_, _, _, _, _, ldS (vs := k.enc) (c1.ext s.e) (by kernel_rfl), ?_⟩
  refine newV (us := k.enc) rfl rfl hdrSz rfl fun h5 e5 c5 b5 z5 => ?_
  refine ⟨_, ld c5.head (by kernel_rfl), ?_⟩
  rw [bnot _ k0 k1]
  refine box_src (g := k) b5 _ fun h6 b6 f6 z6 => ?_
  have e6 : Ext h4 h6 := extOwn e5 f6 (fun k hk => by subst hk; exact Nat.le_refl _)
  have s6 := s.ext e6
  have b6' : h6[h4.size]? = some (.cells k.turn.enc.toArray 26 (0, 0)) := b6
  have g6 : Cl h6 ⟨h4.size, 0, none⟩ k.turn.enc := Cl.of_block b6' fun j v hj => by rw [Nat.zero_add]; exact hj
  refine ⟨_, _, _, _, _, ldS (vs := k.enc) (c1.ext s6.e) (by kernel_rfl), ?_⟩
  refine hget_a s6.qt k fun h7 e7 => ⟨_, _, rfl, ?_⟩
  refine ⟨_, _, _, _, _, ldS (vs := k.turn.enc) (g6.ext e7) (by kernel_rfl), ?_⟩
  have s7 := s6.ext e7
  refine hget_a s7.qu k.turn fun h8 e8 => ⟨_, _, rfl, ?_⟩
  rw [s.tw]
  have s8 := s7.ext e8
  refine Go.Proofs.YtoheablfncdibaaDoor.Fs.hawake_s fun h9 e9 => ⟨_, rfl, br_t rfl ?_⟩
  have s9 := s8.ext e9
  rw [s.la, s.isk]
  refine br_t (by simp) (br_t (by simp) (br_t (by simp) (br_t (by simp) ?_)))
  refine hlen_a s9.qt ⟨_, rfl, hlen_a s9.qu ⟨_, rfl, ?_⟩⟩
  rw [show ((n : Int) == (n : Int)) = true by simp]
  exact H h9 (e1.trans s9.e)
end Go.Proofs.YtoheablfncdibaaDoor.FsS
