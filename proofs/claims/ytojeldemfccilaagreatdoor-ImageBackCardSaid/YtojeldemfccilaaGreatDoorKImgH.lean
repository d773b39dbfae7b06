/- The reader. -/
import Derived.Test.YtojeldemfccilaaGreatDoorKImgG
set_option linter.unusedSimpArgs false
set_option linter.unusedVariables false
namespace Go.Proofs.YtojeldemfccilaaGreatDoor.AA
open Go Go.RowKit
attribute [local go_sem ↓] WP_seq WP_skip WP_region WP_dregion WP_cond WP_block WP_exit WP_ret OW_nil OW_cons DW_nil DW_cons XW_call reduceIte OW_guard DW_guard
attribute [local go_sem] XW exA KO_eq OptK_some EvK_some GW2_true GW2_false KS_normal KS_ret KS_exit KB_normal KB_ret KB_exit CP2_bool RP_ret putA_some putA_none ev_t ev_c evs evo wantA initA resA Tr.get_set vl chkOk cond_true cond_false Nat.add_zero Nat.mul_one Nat.one_mul Nat.zero_add Nat.zero_mul aggOf pInt binA unA intA beq_true beq_false Bool.not_true Bool.not_false Bool.not_eq_true and_self and_true true_and reduceIte Nat.reduceEqDiff Nat.succ_ne_self Nat.reduceAdd Nat.reduceMul Nat.reduceSub Nat.reduceBEq Nat.reduceLT Nat.reduceLeDiff Int.cast_ofNat_Int Int.reduceToNat Int.reduceLT Int.reduceLE Int.reduceGE Int.reduceGT Int.reduceEq Int.reduceNe Int.reduceAdd Int.reduceSub Int.reduceNeg decide_true decide_false Int.toNat_natCast reduceCtorEq List.nil_append List.cons_append AV.boxy AV.cells List.length_cons List.length_nil Nat.beq_refl AOp.cl KDW_0 KDW_1 KDW_2 OWskip_eq DWskip_eq fillA setAt DChk DAt stepA ble_dec beq_dec Bool.and_self Bool.and_true Bool.true_and Bool.and_false Bool.false_and List.take_succ_cons List.take_zero List.drop_succ_cons List.drop_zero List.take_nil List.drop_nil List.append_nil eqAV eqAVL BEq.rfl sameS Option.map Option.isNone wrap64 gt_iff_lt ge_iff_le Int.lt_irrefl Int.le_refl
set_option maxRecDepth 100000
set_option maxHeartbeats 4000000
attribute [local irreducible] Tr.set
def sliA (s : Nat) (v : AV) (lo hi mx : Option AV) : Option AV := match v with
  | .slice (some (b, i)) s' len clip => bif s'.beq s then slA b i s len clip lo hi mx else none
  | .slice none _ len clip => (match slA 0 0 s len clip lo hi mx with | some (.slice _ _ n _) => some (.slice none s n true) | _ => none)
  | _ => none
def SlG (s : Nat) (H : AHeap) : Option AV → Option (Option AV) → Option (Option AV) → Option (Option AV) → Option (AV × AHeap)
  | some v, some lo, some hi, some mx => (match sliA s v lo hi mx with | some w => some (w, H) | none => none)
  | _, _, _, _ => none
theorem SlG_some {s : Nat} {H : AHeap} {v : AV} {lo hi mx : Option AV} : SlG s H (some v) (some lo) (some hi) (some mx) = (match sliA s v lo hi mx with | some w => some (w, H) | none => none) := rfl
theorem exA_slG {call : Rec} {ms : Meth} {fr : AFr} {H : AHeap} {s : Nat} {x : AOpnd} {lo hi mx : Option AOpnd} : exA call ms (.slSlice s x lo hi mx) fr H = SlG s H (fr.ev x) (evo fr lo) (evo fr hi) (evo fr mx) := by
  simp only [exA]
  cases fr.ev x with
  | none => rfl
  | some v =>
    cases evo fr lo with
    | none => cases v <;> rfl
    | some lo =>
      cases evo fr hi with
      | none => cases v <;> rfl
      | some hi =>
        cases evo fr mx with
        | none => cases v <;> rfl
        | some mx =>
          cases v with
          | slice a s' len clip =>
            cases a with
            | none =>
              simp only [SlG, sliA]
              cases slA 0 0 s len clip lo hi mx with
              | none => rfl
              | some w => cases w <;> rfl
            | some p =>
              obtain ⟨b, i⟩ := p
              simp only [SlG, sliA]
              cases s'.beq s <;> rfl
          | _ => rfl
section
variable {α : Type} {E : Rep α} {s : Nat} {H : AHeap} {xs : List α} {v : AV}
theorem SlE.empty {cl : Bool} {s0 : Nat} : SlE E s H ([] : List α) [.slice none s0 0 cl] := ⟨none, s0, cl, rfl, .inl rfl, Nat.zero_le _, fun h => absurd rfl h⟩
theorem SlE.cases2 (h : SlE E s H xs [v]) : (xs = [] ∧ ∃ s0 cl, v = .slice none s0 0 cl) ∨ ∃ x o cl, v = .slice (some (x, o)) s xs.length cl := by
  obtain ⟨a, s0, cl, rfl, hs⟩ := h.shape
  cases a with
  | none => obtain ⟨h1, h2⟩ := h.cut0; subst h1; exact .inl ⟨rfl, s0, cl, rfl⟩
  | some p =>
    obtain rfl : s0 = s := by rcases hs with e | e; cases e; exact e
    exact .inr ⟨p.1, p.2, cl, rfl⟩
theorem SlE.preG (h : SlE E s H xs [v]) {k : Nat} (hk : k ≤ xs.length) : ∃ w, sliA s v none (some (.int .i64 (k : Int))) none = some w ∧ SlE E s H (xs.take k) [w] := by
  rcases h.cases2 with ⟨rfl, s0, cl, rfl⟩ | ⟨x, o, cl, rfl⟩
  · obtain rfl : k = 0 := by simpa using hk
    exact ⟨.slice none s 0 true, rfl, SlE.empty⟩
  · have b1 : boundA none 0 xs.length xs.length = some xs.length := rfl
    have b2 : boundA none 0 k 0 = some 0 := rfl
    refine ⟨_, ?_, h.pre' hk (cl && k.beq xs.length)⟩
    simp only [sliA, Nat.beq_refl, cond_true, slA, b1, bnd hk, b2, Option.isSome_none, Bool.false_and, cond_false, Nat.zero_mul, Nat.add_zero, Nat.sub_zero]
theorem SlE.sufG (h : SlE E s H xs [v]) {k : Nat} (hk : k ≤ xs.length) : ∃ w, sliA s v (some (.int .i64 (k : Int))) none none = some w ∧ SlE E s H (xs.drop k) [w] := by
  rcases h.cases2 with ⟨rfl, s0, cl, rfl⟩ | ⟨x, o, cl, rfl⟩
  · obtain rfl : k = 0 := by simpa using hk
    exact ⟨.slice none s 0 true, rfl, SlE.empty⟩
  · have b1 : boundA none 0 xs.length xs.length = some xs.length := rfl
    refine ⟨_, ?_, h.suf hk (cl && xs.length.beq xs.length)⟩
    simp only [sliA, Nat.beq_refl, cond_true, slA, b1, bnd hk, Option.isSome_none, Bool.false_and, cond_false]
end
def rdF (vs : AV) (bad : Bool) : Nat → AV := fun i => if i = 0 then vs else .bool bad
structure RdR (H0 : AHeap) (rb : Nat) (H : AHeap) (d : List Nat) (bad : Bool) : Prop where
  s : Sm H0 H
  lo : H0.next ≤ rb
  len : d.length ≤ 65536
  b : ∃ vs, Blk H rb 2 (rdF vs bad) ∧ SlE ByE 1 H0 d [vs]
structure NR (b : Nat) (H H' : AHeap) : Prop where
  n : H.next ≤ H'.next
  g : ∀ x, x < H.next → x ≠ b → H'.get x = H.get x
section
variable {H0 H H' H2 : AHeap} {rb : Nat} {d d' : List Nat} {bad : Bool}
theorem NR.refl (b : Nat) (H : AHeap) : NR b H H := ⟨Nat.le_refl _, fun _ _ _ => rfl⟩
theorem NR.trans {b : Nat} (h : NR b H H') (k : NR b H' H2) : NR b H H2 := ⟨Nat.le_trans h.n k.n, fun x hx hb => by rw [k.g x (Nat.lt_of_lt_of_le hx h.n) hb, h.g x hx hb]⟩
theorem NR.of_sm {b : Nat} (s : Sm H H') : NR b H H' := ⟨s.1, fun x hx _ => s.gt hx⟩
theorem NR.ch {b : Nat} (hn : H'.next = H.next) (hg : ∀ x, x ≠ b → H'.get x = H.get x) : NR b H H' := ⟨by omega, fun x _ hb => hg x hb⟩
theorem NR.sm {b : Nat} (h : NR b H H') (hb : H0.next ≤ b) (s : Sm H0 H) : Sm H0 H' := Sm.of (Nat.le_trans s.1 h.n) fun x hx => by rw [h.g x (Nat.lt_of_lt_of_le hx s.1) (by omega), s.gt hx]
theorem RdR.lt (r : RdR H0 rb H d bad) : rb < H.next := by obtain ⟨vs, h, -⟩ := r.b; exact h.1
theorem RdR.sm (r : RdR H0 rb H d bad) (s : Sm H H') : RdR H0 rb H' d bad := by
  obtain ⟨vs, h, hs⟩ := r.b
  exact ⟨r.s.trans s, r.lo, r.len, vs, h.keep' s.1 (s.gt h.1), hs⟩
theorem RdR.keep (r : RdR H0 rb H d bad) (hl : H.next ≤ H'.next) (hg : ∀ x, x < H.next → x ≤ rb → H'.get x = H.get x) : RdR H0 rb H' d bad := by
  obtain ⟨vs, h, hs⟩ := r.b
  exact ⟨Sm.of (Nat.le_trans r.s.1 hl) fun x hx => by rw [hg x (Nat.lt_of_lt_of_le hx r.s.1) (by have := r.lo; omega), r.s.gt hx], r.lo, r.len, vs, h.keep' hl (hg _ h.1 (Nat.le_refl _)), hs⟩
theorem RdR.ld (r : RdR H0 rb H d bad) : ∃ vs, loadA H rb 0 1 = some [vs] ∧ loadA H rb 1 1 = some [.bool bad] ∧ SlE ByE 1 H0 d [vs] ∧ ∀ H', H'.get rb = H.get rb → loadA H' rb 0 1 = some [vs] ∧ loadA H' rb 1 1 = some [.bool bad] := by
  obtain ⟨vs, h, hs⟩ := r.b
  exact ⟨vs, h.load (i := 0) (by omega), h.load (i := 1) (by omega), hs, fun H' e => ⟨by rw [loadA_congr e, h.load (i := 0) (by omega)]; rfl, by rw [loadA_congr e, h.load (i := 1) (by omega)]; rfl⟩⟩
theorem RdR.fell (r : RdR H0 rb H d bad) : ∃ H', storeA H rb 1 [.bool true] = some H' ∧ RdR H0 rb H' d true ∧ NR rb H H' := by
  obtain ⟨vs, h, hs⟩ := r.b
  obtain ⟨H', e1, e2, e3, e4⟩ := h.store (i := 1) (by omega) (.bool true)
  have nr : NR rb H H' := NR.ch e3 e4
  refine ⟨H', e1, ⟨nr.sm r.lo r.s, r.lo, r.len, vs, e2.congr fun i hi => ?_, hs⟩, nr⟩
  unfold rdF
  match i, hi with
  | 0, _ => rw [upd_ne (by omega)]; rfl
  | 1, _ => rw [upd_same]; rfl
theorem RdR.put (r : RdR H0 rb H d bad) {ws : AV} (hd : d'.length ≤ 65536) (hw : SlE ByE 1 H0 d' [ws]) : ∃ H', storeA H rb 0 [ws] = some H' ∧ RdR H0 rb H' d' bad ∧ NR rb H H' := by
  obtain ⟨vs, h, hs⟩ := r.b
  obtain ⟨H', e1, e2, e3, e4⟩ := h.store (i := 0) (by omega) ws
  have nr : NR rb H H' := NR.ch e3 e4
  refine ⟨H', e1, ⟨nr.sm r.lo r.s, r.lo, hd, ws, e2.congr fun i hi => ?_, hw⟩, nr⟩
  unfold rdF
  match i, hi with
  | 0, _ => rw [upd_same]; rfl
  | 1, _ => rw [upd_ne (by omega)]; rfl
theorem OwS.fg {α : Type} {enc : α → List AV} {ok : α → Prop} {s n0 : Nat} {xs : List α} {v : AV} (h : SlE (EncE enc ok) s H xs [v]) (ho : OwS n0 H s xs.length v) : Fg n0 H fun K => SlE (EncE enc ok) s K xs [v] := by
  intro K a b
  obtain ⟨a', s0, cl, e, k0, k1, k⟩ := h
  refine ⟨a', s0, cl, e, k0, k1, fun h0 => ?_⟩
  obtain ⟨x, o, cs, rfl, hr, hl, hj⟩ := k h0
  rcases ho with ⟨h1, -⟩ | ⟨y, cl', cs', e', hy, -⟩
  · exact absurd h1 h0
  · rw [e'] at e
    simp only [List.cons.injEq, AV.slice.injEq, Option.some.injEq, Prod.mk.injEq, and_true] at e
    obtain ⟨⟨rfl, -⟩, -⟩ := e
    exact ⟨y, o, cs, rfl, hr.kseal a (b y hy hr.1), hl, hj⟩
def CutR (d : List Nat) (bad : Bool) (n : Int) (e d' : List Nat) (bad' : Bool) : Prop := (bad = false ∧ 0 ≤ n ∧ n ≤ d.length ∧ e = d.take n.toNat ∧ d' = d.drop n.toNat ∧ bad' = false) ∨ (¬ (bad = false ∧ 0 ≤ n ∧ n ≤ d.length) ∧ e = [] ∧ d' = d ∧ bad' = true)
theorem c_cut (r : RdR H0 rb H d bad) (n : Int) : CW MN 35 [.ptr (some (rb, 0)), .int .i64 n] H fun w H' => NR rb H H' ∧ ∃ e d' bad', RdR H0 rb H' d' bad' ∧ Fg H.next H' (fun K => SlE ByE 1 K e [w]) ∧ CutR d bad n e d' bad' := by
  refine CW_of (fn := af35) rfl ?_
  dsimp only [af35, qm, q, qG, qn, qi, qb, qB, qk, qc, qo, qg, qv, qr]
  obtain ⟨vs, l0, l1, hs, -⟩ := r.ld
  obtain ⟨Hf, f1, f2, f3⟩ := r.fell
  have nilR : ¬ (bad = false ∧ 0 ≤ n ∧ n ≤ d.length) → NR rb H Hf ∧ ∃ e d' bad', RdR H0 rb Hf d' bad' ∧ Fg H.next Hf (fun K => SlE ByE 1 K e [.slice none 1 0 true]) ∧ CutR d bad n e d' bad' := fun h => ⟨f3, [], d, true, f2, fun K _ _ => SlE.empty, .inr ⟨h, rfl, rfl, rfl⟩⟩
  cases hb : bad with
  | true =>
    rw [hb] at l1 nilR
    simp -implicitDefEqProofs only [l1, f1, go_sem]
    exact nilR (by simp)
  | false =>
    rw [hb] at l1 nilR r
    by_cases h0 : n < 0
    · simp -implicitDefEqProofs only [l1, f1, h0, Bool.false_eq_true, go_sem]
      exact nilR (by omega)
    by_cases h1 : (d.length : Int) < n
    · obtain ⟨a, s0, cl, rfl, -⟩ := hs.shape
      simp -implicitDefEqProofs only [l0, l1, f1, h0, h1, Bool.false_eq_true, go_sem]
      exact nilR (by omega)
    obtain ⟨k, rfl⟩ := Int.eq_ofNat_of_zero_le (a := n) (by omega)
    have hk : k ≤ d.length := by omega
    obtain ⟨w1, p1, q1⟩ := hs.preG hk
    obtain ⟨w2, p2, q2⟩ := hs.sufG hk
    obtain ⟨a, s0, cl, rfl, -⟩ := hs.shape
    obtain ⟨a2, s2, cl2, rfl, -⟩ := q2.shape
    obtain ⟨Hp, e1, e2, e3⟩ := r.put (d' := d.drop k) (by have := r.len; simp; omega) q2
    have hlen : (d.take k).length * 1 ≤ 140737488355328 := by have := r.len; simp; omega
    simp -implicitDefEqProofs only [l0, l1, h0, h1, ↓exA_slG, SlG_some, p1, p2, e1, Bool.false_eq_true, go_sem]
    refine CW.mono (c_clone (f := 62) (bytes := 1) rfl MonoE.enc (MonoE.enc.sl _ _ _ _ q1 e2.s) hlen (by omega)) ?_
    rintro u H3 ⟨s3, sl3, ow⟩
    simp -implicitDefEqProofs only [go_sem]
    refine ⟨e3.trans (NR.of_sm s3), d.take k, d.drop k, false, e2.sm s3, (OwS.fg sl3 ow).low e3.n, .inl ⟨rfl, by omega, by omega, rfl, rfl, rfl⟩⟩
end
set_option maxHeartbeats 4000000
def be (l : List Nat) : Nat := l.foldl (fun a c => a * 256 + c) 0
theorem be_snoc (l : List Nat) (c : Nat) : be (l ++ [c]) = be l * 256 + c := by simp [be]
theorem be_lt : ∀ (n : Nat) (l : List Nat), l.length = n → (∀ x, x ∈ l → x < 256) → be l < 256 ^ n
  | 0, l, h, _ => by rw [List.eq_nil_of_length_eq_zero h]; simp [be]
  | n + 1, l, h, hb => by
    rcases List.eq_nil_or_concat l with rfl | ⟨p, c, rfl⟩
    · simp at h
    · have hp := be_lt n p (by simp at h; omega) fun x hx => hb x (by simp [hx])
      have hc := hb c (by simp)
      rw [List.concat_eq_append, be_snoc, Nat.pow_succ]
      omega
theorem be_b4 (n : Int) : be (b4 n) = u32 n := by
  have h : u32 n < 4294967296 := by unfold u32; omega
  rw [b4_u32]
  simp only [be, List.foldl_cons, List.foldl_nil, Nat.reducePow]
  omega
theorem shl8 {a : Nat} (h : a < 16777216) : binA .shl (.sc .int) (.int .u32 (a : Int)) (.int .u64 8) = some (.int .u32 ((a * 256 : Nat) : Int)) := by
  show some (AV.int .u32 (IntKind.u32.wrap ((a : Int) * 2 ^ 8))) = _
  have e : IntKind.u32.wrap ((a : Int) * 2 ^ 8) = ((a : Int) * 2 ^ 8) % 4294967296 := by
    unfold IntKind.wrap
    simp [IntKind.signed, IntKind.bits]
  rw [e]
  congr 2
  omega
theorem or8 {a c : Nat} (hc : c < 256) (h : a * 256 + c < 4294967296) : binA .or (.sc .int) (.int .u32 ((a * 256 : Nat) : Int)) (.int .u32 (c : Int)) = some (.int .u32 ((a * 256 + c : Nat) : Int)) := by
  have h1 : (BitVec.ofInt 32 ((a * 256 : Nat) : Int)).toNat = a * 256 := by rw [BitVec.toNat_ofInt]; omega
  have h2 : (BitVec.ofInt 32 (c : Int)).toNat = c := by rw [BitVec.toNat_ofInt]; omega
  have h3 := Nat.two_pow_add_eq_or_of_lt (i := 8) hc a
  show some (AV.int .u32 (IntKind.u32.wrap (((BitVec.ofInt 32 ((a * 256 : Nat) : Int) ||| BitVec.ofInt 32 (c : Int)).toNat : Nat) : Int))) = _
  have e : ∀ m : Int, IntKind.u32.wrap m = m % 4294967296 := fun m => by
    unfold IntKind.wrap
    simp [IntKind.signed, IntKind.bits]
  rw [BitVec.toNat_or, h1, h2, e, show a * 256 = 2 ^ 8 * a by omega, ← h3]
  congr 2
  omega
theorem convC {c : Nat} (hc : c < 256) (G : AHeap) : convA (.int .u32) (.int .u8 (c : Int)) G = some (.int .u32 (c : Int), G) := by
  have e : IntKind.u32.wrap (c : Int) = (c : Int) := by
    unfold IntKind.wrap
    simp [IntKind.signed, IntKind.bits]; omega
  show some (AV.int .u32 (IntKind.u32.wrap (c : Int)), G) = _
  rw [e]
def i32 (v : Nat) : Int := if v < 2147483648 then (v : Int) else (v : Int) - 4294967296
theorem i32_ok {v : Nat} (h : v < 4294967296) : I32 (i32 v) := by unfold i32 I32; split <;> omega
theorem i32_u32 {n : Int} (h : I32 n) : i32 (u32 n) = n := by
  obtain ⟨h1, h2⟩ := h
  unfold i32 u32
  split <;> omega
theorem conv_i32 {v : Nat} (h : v < 4294967296) (G : AHeap) : convA (.int .i32) (.int .u32 (v : Int)) G = some (.int .i32 (i32 v), G) := by
  have e : IntKind.i32.wrap (v : Int) = i32 v := by
    unfold IntKind.wrap i32
    simp [IntKind.signed, IntKind.bits]
    split <;> split <;> omega
  show some (AV.int .i32 (IntKind.i32.wrap (v : Int)), G) = _
  rw [e]
theorem conv_i64 {n : Int} (h : I32 n) (G : AHeap) : convA (.int .i64) (.int .i32 n) G = some (.int .i64 n, G) := by
  show some (AV.int .i64 (IntKind.i64.wrap n), G) = _
  rw [wrap64 (by have := h.1; omega) (by have := h.2; omega)]
def PX {α : Type} (enc : α → List Nat) (ok : α → Prop) (d : List Nat) (bad : Bool) (v : α) (d' : List Nat) (bad' : Bool) : Prop := ∀ a t, bad = false → ok a → d = enc a ++ t → v = a ∧ d' = t ∧ bad' = false
section
variable {H0 H H' H2 : AHeap} {rb : Nat} {d d' : List Nat} {bad : Bool}
theorem Fg.nr {lo : Nat} {P : AHeap → Prop} (h : Fg lo H P) (k : NR rb H H') (hr : rb < lo) : Fg lo H' P := h.kp k.n fun x h1 h2 => k.g x h2 (by omega)
theorem c_rnum (r : RdR H0 rb H d bad) : CW MN 64 [.ptr (some (rb, 0))] H fun w H' => NR rb H H' ∧ ∃ n d' bad', w = .int .i64 n ∧ I32 n ∧ RdR H0 rb H' d' bad' ∧ PX b4 I32 d bad n d' bad' := by
  refine CW_of (fn := af64) rfl ?_
  dsimp only [af64, qm, q, qG, qn, qi, qb, qB, qk, qc, qo, qg, qv, qr]
  simp -implicitDefEqProofs only [go_sem]
  refine CW.mono (c_cut r 4) ?_
  rintro w H1 ⟨nr, e, d', bad', r', fg, cut⟩
  have sl := fg.here
  have hby : ∀ x, x ∈ e → x < 256 := fun x hx => by
    obtain ⟨q, hq, rfl⟩ := List.getElem_of_mem hx
    obtain ⟨a, s0, cl, rfl, -⟩ := sl.shape
    obtain ⟨-, -, -, -, -, -, -, ⟨-, h256⟩, -⟩ := sl.at hq
    exact h256
  have hl4 : e.length ≤ 4 := by
    rcases cut with ⟨-, -, -, h, -⟩ | ⟨-, h, -⟩
    · rw [h]; simp; omega
    · rw [h]; simp
  have hpx : PX b4 I32 d bad (i32 (be e)) d' bad' := fun a t hb ha hd => by
    have hdl : 4 ≤ d.length := by rw [hd, List.length_append, b4_len]; omega
    rcases cut with ⟨-, -, -, h1, h2, h3⟩ | ⟨h1, -⟩
    · have h4 : (4 : Int).toNat = 4 := rfl
      have e1 : e = b4 a := by rw [h1, hd, h4, List.take_append_of_le_length (by rw [b4_len]; omega)]; rfl
      have e2 : d' = t := by rw [h2, hd, h4, List.drop_append_of_le_length (by rw [b4_len]; omega)]; rfl
      exact ⟨by rw [e1, be_b4, i32_u32 ha], e2, h3⟩
    · exact absurd ⟨hb, by omega, by omega⟩ h1
  have hv : be e < 4294967296 := by
    have h1 := be_lt e.length e rfl hby
    have h2 : 256 ^ e.length ≤ 256 ^ 4 := Nat.pow_le_pow_right (by omega) hl4
    omega
  have c1 := conv_i32 hv
  have c2 := conv_i64 (i32_ok hv)
  obtain ⟨a, s0, cl, rfl, -⟩ := sl.shape
  simp -implicitDefEqProofs only [go_sem]
  refine WP_mono (Q := fun ex fr H' => ex = .exit 0 ∧ fr.get 3 = some (.int .u32 (be e : Nat)) ∧ H' = H1) ?_ (WP_loop (fun m fr H' => ∃ j : Nat, m = e.length - j ∧ j ≤ e.length ∧ fr.get 3 = some (.int .u32 (be (e.take j) : Nat)) ∧ fr.get 7 = some (.slice a s0 e.length cl) ∧ fr.get 8 = some (.int .i64 e.length) ∧ fr.get 9 = some (.int .i64 j) ∧ H' = H1) e.length ?_ ?_)
  · rintro ex fr G ⟨rfl, g3, rfl⟩
    simp -implicitDefEqProofs only [g3, c1, c2, go_sem]
    exact ⟨nr, _, d', bad', rfl, i32_ok hv, r', hpx⟩
  · refine ⟨0, rfl, by omega, ?_⟩
    simp -implicitDefEqProofs only [go_sem]
    rfl
  · rintro m fr G ⟨j, hm, hj, g3, g7, g8, g9, rfl⟩
    have j0 : (0 : Int) ≤ j := by omega
    by_cases hlt : j < e.length
    · have hlt' : (j : Int) < (e.length : Int) := by omega
      have hw := wrapS hlt (by omega)
      obtain ⟨x, o, cs, rfl, rfl, ld, -, ⟨rfl, h256⟩, -⟩ := sl.at hlt
      have hbt := be_lt j (e.take j) (by simp; omega) fun x hx => hby x (List.mem_of_mem_take hx)
      have h3 : 256 ^ j ≤ 256 ^ 3 := Nat.pow_le_pow_right (by omega) (by omega)
      have sh := shl8 (a := be (e.take j)) (by omega)
      have oo := or8 (a := be (e.take j)) (c := e[j]) h256 (by have : e[j] < 256 := h256; omega)
      have cc := convC (c := e[j]) h256
      have es : be (e.take (j + 1)) = be (e.take j) * 256 + e[j] := by rw [List.take_add_one, List.getElem?_eq_getElem hlt]; exact be_snoc _ _
      generalize e[j] = c at *
      unfold byC at ld
      rw [Nat.mul_one] at ld
      simp -implicitDefEqProofs only [g3, g7, g8, g9, hlt', j0, ld, cc, ↓sh, ↓oo, hw, Nat.mul_one, go_sem]
      refine ⟨e.length - (j + 1), by omega, j + 1, rfl, by omega, ?_⟩
      rw [es]
      exact ⟨rfl, rfl⟩
    · obtain rfl : j = e.length := by omega
      rw [List.take_length] at g3
      simp -implicitDefEqProofs only [g3, g7, g8, g9, Int.lt_irrefl, Bool.false_eq_true, go_sem]
theorem c_rcount (r : RdR H0 rb H d bad) : CW MN 63 [.ptr (some (rb, 0))] H fun w H' => NR rb H H' ∧ ∃ (n : Nat) (d' : List Nat) (bad' : Bool), w = .int .i64 (n : Int) ∧ n ≤ 65536 ∧ RdR H0 rb H' d' bad' ∧ ∀ (k : Nat) t, bad = false → d = b4 k ++ t → k ≤ t.length → n = k ∧ d' = t ∧ bad' = false := by
  refine CW_of (fn := af63) rfl ?_
  dsimp only [af63, qm, q, qG, qn, qi, qb, qB, qk, qc, qo, qg, qv, qr]
  simp -implicitDefEqProofs only [go_sem]
  refine CW.mono (c_rnum r) ?_
  rintro w H1 ⟨nr, n, d', bad', rfl, hn, r', px⟩
  obtain ⟨vs, l0, l1, hs, -⟩ := r'.ld
  obtain ⟨Hf, f1, f2, f3⟩ := r'.fell
  obtain ⟨a, s0, cl, rfl, -⟩ := hs.shape
  have dl := r'.len
  by_cases h0 : n < 0
  · simp -implicitDefEqProofs only [l0, f1, h0, go_sem]
    refine ⟨nr.trans f3, 0, d', true, rfl, by omega, f2, fun k t hb hd hk => ?_⟩
    have hkd : k ≤ 65536 := by have := r.len; rw [hd, List.length_append, b4_len] at this; omega
    have := (px k t hb (i32_nat (by omega)) hd).1
    omega
  by_cases h1 : (d'.length : Int) < n
  · simp -implicitDefEqProofs only [l0, f1, h0, h1, Bool.false_eq_true, go_sem]
    refine ⟨nr.trans f3, 0, d', true, rfl, by omega, f2, fun k t hb hd hk => ?_⟩
    have hkd : k ≤ 65536 := by have := r.len; rw [hd, List.length_append, b4_len] at this; omega
    obtain ⟨q1, q2, -⟩ := px k t hb (i32_nat (by omega)) hd
    rw [q2] at h1
    omega
  obtain ⟨k0, rfl⟩ := Int.eq_ofNat_of_zero_le (a := n) (by omega)
  simp -implicitDefEqProofs only [l0, h0, h1, Bool.false_eq_true, go_sem]
  refine ⟨nr, k0, d', bad', rfl, by omega, r', fun k t hb hd hk => ?_⟩
  have hkd : k ≤ 65536 := by have := r.len; rw [hd, List.length_append, b4_len] at this; omega
  obtain ⟨q1, q2, q3⟩ := px k t hb (i32_nat (by omega)) hd
  exact ⟨by omega, q2, q3⟩
end
set_option maxHeartbeats 8000000
def EXL {α : Type} (enc : α → List Nat) (ok : α → Prop) (d : List Nat) (bad : Bool) (n j : Nat) (l : List α) (dj : List Nat) (bj : Bool) : Prop := ∀ l0 t, bad = false → (∀ x, x ∈ l0 → ok x) → d = rowB enc l0 ++ t → n = l0.length ∧ l = l0.take j ∧ dj = (l0.drop j).flatMap enc ++ t ∧ bj = false
section
variable {α : Type} {enc : α → List Nat} {ok : α → Prop} {d dj d' : List Nat} {bad bj b' : Bool} {n j : Nat} {l : List α} {v : α}
theorem flat_ge (he : ∀ x, 1 ≤ (enc x).length) : ∀ l : List α, l.length ≤ (l.flatMap enc).length
  | [] => by simp
  | x :: l => by
    have := flat_ge he l
    have := he x
    rw [List.flatMap_cons, List.length_append, List.length_cons]; omega
theorem EXL.init (he : ∀ x, 1 ≤ (enc x).length) (h : ∀ (k : Nat) t, bad = false → d = b4 k ++ t → k ≤ t.length → n = k ∧ dj = t ∧ bj = false) : EXL enc ok d bad n 0 [] dj bj := fun l0 t hb _ hd => by
  unfold rowB at hd
  rw [List.append_assoc] at hd
  obtain ⟨h1, h2, h3⟩ := h l0.length _ hb hd (by have := flat_ge he l0; rw [List.length_append]; omega)
  exact ⟨h1, by simp, by rw [h2]; simp, h3⟩
theorem EXL.step (h : EXL enc ok d bad n j l dj bj) (hj : j < n) (px : PX enc ok dj bj v d' b') : EXL enc ok d bad n (j + 1) (l ++ [v]) d' b' := fun l0 t hb ho hd => by
  obtain ⟨h1, h2, h3, h4⟩ := h l0 t hb ho hd
  have hjl : j < l0.length := by omega
  rw [List.drop_eq_getElem_cons hjl, List.flatMap_cons, List.append_assoc] at h3
  obtain ⟨q1, q2, q3⟩ := px l0[j] _ h4 (ho _ (List.getElem_mem hjl)) h3
  exact ⟨h1, by rw [List.take_add_one, List.getElem?_eq_getElem hjl, h2, q1]; rfl, q2, q3⟩
theorem EXL.fin (h : EXL enc ok d bad n n l dj bj) : PX (rowB enc) (fun l => ∀ x, x ∈ l → ok x) d bad l dj bj := fun l0 t hb ho hd => by
  obtain ⟨h1, h2, h3, h4⟩ := h l0 t hb ho hd
  subst h1
  exact ⟨by rw [h2, List.take_length], by rw [h3, List.drop_length]; rfl, h4⟩
end
theorem PX.two {α β γ : Type} {e1 : α → List Nat} {o1 : α → Prop} {e2 : β → List Nat} {o2 : β → Prop} {d d1 d2 : List Nat} {b b1 b2 : Bool} {x : α} {y : β} (h1 : PX e1 o1 d b x d1 b1) (h2 : PX e2 o2 d1 b1 y d2 b2) {enc : γ → List Nat} {ok : γ → Prop} {z : γ} (f : γ → α) (g : γ → β) (he : ∀ c, enc c = e1 (f c) ++ e2 (g c)) (ho : ∀ c, ok c → o1 (f c) ∧ o2 (g c)) (hz : ∀ c, x = f c → y = g c → z = c) : PX enc ok d b z d2 b2 := fun c t hb hc hd => by
  rw [he, List.append_assoc] at hd
  obtain ⟨q1, q2, q3⟩ := h1 (f c) _ hb (ho c hc).1 hd
  obtain ⟨r1, r2, r3⟩ := h2 (g c) _ q3 (ho c hc).2 q2
  exact ⟨hz c q1 r1, r2, r3⟩
theorem px_pr {d d1 d2 : List Nat} {b b1 b2 : Bool} {x y : Int} (h1 : PX b4 I32 d b x d1 b1) (h2 : PX b4 I32 d1 b1 y d2 b2) : PX prB okPr d b (x, y) d2 b2 :=
  h1.two h2 Prod.fst Prod.snd (fun _ => rfl) (fun _ h => h) fun c h h' => by rw [h, h']
theorem I32.i64 {n : Int} (h : I32 n) : I64 n := ⟨by have := h.1; omega, by have := h.2; omega⟩
section
variable {H0 H : AHeap} {rb : Nat} {d : List Nat} {bad : Bool}
theorem c_rvals (r : RdR H0 rb H d bad) : CW MN 66 [.ptr (some (rb, 0))] H fun w H' => NR rb H H' ∧ ∃ (l : List Pr2) (d' : List Nat) (bad' : Bool), l.length ≤ 65536 ∧ Fg H.next H' (fun K => SlE PrE 2 K l [w]) ∧ RdR H0 rb H' d' bad' ∧ PX (rowB prB) (fun l => ∀ x, x ∈ l → okPr x) d bad l d' bad' := by
  refine CW_of (fn := af66) rfl ?_
  dsimp only [af66, qm, q, qG, qn, qi, qb, qB, qk, qc, qo, qg, qv, qr]
  have hrb := r.lt
  simp -implicitDefEqProofs only [go_sem]
  refine CW.mono (c_rcount r) ?_
  rintro w H1 ⟨nr, n, d1, b1, rfl, hn, r1, px⟩
  have ex0 : EXL prB okPr d bad n 0 [] d1 b1 := EXL.init (fun x => by rw [List.length_append, b4_len, b4_len]; omega) px
  simp -implicitDefEqProofs only [go_sem]
  refine WP_mono (Q := fun ex fr G => ex = .exit 0 ∧ ∃ l v d' b', l.length ≤ 65536 ∧ fr.get 3 = some v ∧ NR rb H G ∧ GL H.next PrE 2 G l v ∧ RdR H0 rb G d' b' ∧ PX (rowB prB) (fun l => ∀ x, x ∈ l → okPr x) d bad l d' b') ?_ (WP_loop (fun m fr G => ∃ (j : Nat) (l : List Pr2) (v : AV) (d' : List Nat) (b' : Bool), m = n - j ∧ j ≤ n ∧ l.length = j ∧ fr.get 0 = some (.ptr (some (rb, 0))) ∧ fr.get 3 = some v ∧ fr.get 5 = some (.int .i64 n) ∧ fr.get 6 = some (.int .i64 j) ∧ NR rb H G ∧ GL H.next PrE 2 G l v ∧ RdR H0 rb G d' b' ∧ EXL prB okPr d bad n j l d' b') n ?_ ?_)
  · rintro ex fr G ⟨rfl, l, v, d', b', hl, g3, nr, gl, r', px⟩
    simp -implicitDefEqProofs only [g3, go_sem]
    exact ⟨nr, l, d', b', hl, gl.fg (by unfold maxLen; omega), r', px⟩
  · refine ⟨0, [], .slice none 1 0 true, d1, b1, rfl, by omega, rfl, ?_⟩
    simp -implicitDefEqProofs only [go_sem]
    exact ⟨nr, GL.nil, r1, ex0⟩
  · rintro m fr G ⟨j, l, v, d2, b2, hm, hj, hl, g0, g3, g5, g6, nr, gl, r2, ex⟩
    have j0 : (0 : Int) ≤ j := by omega
    by_cases hlt : j < n
    · have hlt' : (j : Int) < (n : Int) := by omega
      have hw := wrapS hlt (by omega)
      simp -implicitDefEqProofs only [g0, g3, g5, g6, hlt', go_sem]
      refine CW.mono (c_rnum r2) ?_
      rintro w G1 ⟨nr1, x, d3, b3, rfl, hx, r3, px1⟩
      simp -implicitDefEqProofs only [g0, g3, g5, g6, go_sem]
      refine CW.mono (c_rnum r3) ?_
      rintro w G2 ⟨nr2, y, d4, b4', rfl, hy, r4, px2⟩
      have nr12 := nr1.trans nr2
      have gl2 := gl.keep nr12.n fun z h1 h2 => nr12.g z h2 (by omega)
      obtain ⟨w2, G3, e1, gl3, hn3, hlow, -⟩ := gl2.push (a := (x, y)) (ys := [.int .i64 x, .int .i64 y]) (bytes := 16) (Nat.le_trans nr.n nr12.n) rfl (Fg.const ⟨rfl, hx.i64, hy.i64⟩) (by omega) (by omega)
      have r5 := r4.keep hn3 fun z _ h2 => hlow z (by omega)
      have nr3 : NR rb H G3 := ⟨Nat.le_trans nr.n (Nat.le_trans nr12.n hn3), fun z h1 h2 => by rw [hlow z h1, (nr.trans nr12).g z h1 h2]⟩
      simp -implicitDefEqProofs only [g0, g3, g5, g6, e1, hw, go_sem]
      exact ⟨n - (j + 1), by omega, j + 1, l ++ [(x, y)], w2, d4, b4', rfl, by omega, by simp [hl], rfl, rfl, nr3, gl3, r5, ex.step hlt (px_pr px1 px2)⟩
    · obtain rfl : j = n := by omega
      simp -implicitDefEqProofs only [g0, g3, g5, g6, Int.lt_irrefl, Bool.false_eq_true, go_sem]
      exact ⟨l, v, d2, b2, by omega, rfl, nr, gl, r2, ex.fin⟩
end
set_option maxHeartbeats 8000000
theorem GL.shape {α : Type} {E : Rep α} {lo s : Nat} {H : AHeap} {xs : List α} {v : AV} (h : GL lo E s H xs v) : ∃ a s0 cl, v = .slice a s0 xs.length cl := by
  obtain ⟨cs, h1, -⟩ := h
  rcases h1 with ⟨⟨s0, rfl⟩, -, h0⟩ | ⟨x, i, cl, rfl, -⟩
  · exact ⟨none, s0, true, by rw [h0]⟩
  · exact ⟨_, _, _, rfl⟩
theorem ByE.lt {H : AHeap} {l : List Nat} {v : AV} (h : SlE ByE 1 H l [v]) : ∀ x, x ∈ l → x < 256 := fun x hx => by
  obtain ⟨q, hq, rfl⟩ := List.getElem_of_mem hx
  obtain ⟨a, s0, cl, rfl, -⟩ := h.shape
  obtain ⟨-, -, -, -, -, -, -, ⟨-, h256⟩, -⟩ := h.at hq
  exact h256
theorem px_text {d e d1 d2 : List Nat} {b b1 b2 : Bool} {n : Int} (px : PX b4 I32 d b n d1 b1) (cut : CutR d1 b1 n e d2 b2) : PX textB (fun s => s.length ≤ 2147483647) d b e d2 b2 := fun s t hb hs hd => by
  unfold textB at hd
  rw [List.append_assoc] at hd
  obtain ⟨q1, q2, q3⟩ := px _ _ hb (i32_nat hs) hd
  rcases cut with ⟨-, -, -, h1, h2, h3⟩ | ⟨h1, -⟩
  · have e1 : n.toNat = s.length := by omega
    exact ⟨by rw [h1, q2, e1, List.take_left], by rw [h2, q2, e1, List.drop_left], h3⟩
  · exact absurd ⟨q3, by omega, by rw [q2, List.length_append]; omega⟩ h1
theorem CutR.le {d e d' : List Nat} {b b' : Bool} {n : Int} (h : CutR d b n e d' b') : e.length ≤ d.length := by
  rcases h with ⟨-, -, -, h1, -⟩ | ⟨-, h1, -⟩
  · rw [h1]; simp; omega
  · rw [h1]; simp
theorem px_cl {d d1 d2 d3 d4 : List Nat} {b b1 b2 b3 b4' : Bool} {s : List Nat} {x y : Int} {l : List Pr2} (h1 : PX textB (fun s => s.length ≤ 2147483647) d b s d1 b1) (h2 : PX b4 I32 d1 b1 x d2 b2) (h3 : PX b4 I32 d2 b2 y d3 b3) (h4 : PX (rowB prB) (fun l => ∀ x, x ∈ l → okPr x) d3 b3 l d4 b4') : PX clB okCl d b ⟨s, x, y, l⟩ d4 b4' := fun c t hb hc hd => by
  obtain ⟨c1, c2, c3, c4⟩ := hc
  simp only [clB, List.append_assoc] at hd
  obtain ⟨q1, q2, q3⟩ := h1 _ _ hb (by omega) hd
  obtain ⟨r1, r2, r3⟩ := h2 _ _ q3 c2 q2
  obtain ⟨s1, s2, s3⟩ := h3 _ _ r3 c3 r2
  obtain ⟨t1, t2, t3⟩ := h4 _ _ s3 c4.2 s2
  exact ⟨by rw [q1, r1, s1, t1], t2, t3⟩
structure CBk (G : AHeap) (y : Nat) (s : List Nat) (a b : Int) (v : AV) : Prop where
  k : ∃ f, Blk G y 4 f ∧ f 0 = .str s ∧ f 1 = .int .i64 a ∧ f 2 = .int .i64 b ∧ f 3 = v
section
variable {G G' : AHeap} {y : Nat} {s : List Nat} {a b : Int} {v : AV}
theorem CBk.keep (h : CBk G y s a b v) (hl : G.next ≤ G'.next) (hg : G'.get y = G.get y) : CBk G' y s a b v := by
  obtain ⟨f, h1, h2⟩ := h.k
  exact ⟨f, h1.keep' hl hg, h2⟩
theorem CBk.l3 (h : CBk G y s a b v) : loadA G y 3 1 = some [v] := by
  obtain ⟨f, h1, -, -, -, h3⟩ := h.k
  rw [h1.load (i := 3) (by omega), h3]
theorem CBk.l4 (h : CBk G y s a b v) : loadA G y 0 4 = some [.str s, .int .i64 a, .int .i64 b, v] := by
  obtain ⟨f, h1, q0, q1, q2, q3⟩ := h.k
  exact (h1.rd (i := 0) (vs := [.str s, .int .i64 a, .int .i64 b, v]) (by simp) fun j w hj => by
    have hj4 : j < 4 := by simpa using (List.getElem?_eq_some_iff.1 hj).1
    rw [Nat.zero_add]
    match j, hj4, hj with
    | 0, _, hj => rw [q0]; simpa using hj
    | 1, _, hj => rw [q1]; simpa using hj
    | 2, _, hj => rw [q2]; simpa using hj
    | 3, _, hj => rw [q3]; simpa using hj).load rfl
theorem CBk.st3 (h : CBk G y s a b v) (w : AV) : ∃ G', storeA G y 3 [w] = some G' ∧ CBk G' y s a b w ∧ G'.next = G.next ∧ ∀ x, x ≠ y → G'.get x = G.get x := by
  obtain ⟨f, h1, q0, q1, q2, q3⟩ := h.k
  obtain ⟨G', e1, e2, e3, e4⟩ := h1.store (i := 3) (by omega) w
  exact ⟨G', e1, ⟨_, e2, by rw [upd_ne (by omega)]; exact q0, by rw [upd_ne (by omega)]; exact q1, by rw [upd_ne (by omega)]; exact q2, upd_same⟩, e3, e4⟩
theorem CBk.new {f : Nat → AV} (h : Blk G y 4 f) : ∃ G', storeA G y 0 [.str s, .int .i64 a, .int .i64 b, v] = some G' ∧ CBk G' y s a b v ∧ G'.next = G.next ∧ ∀ x, x ≠ y → G'.get x = G.get x := by
  obtain ⟨G', e1, e2, e3⟩ := h.stores (i := 0) (vs := [.str s, .int .i64 a, .int .i64 b, v]) (by simp)
  exact ⟨G', e1, ⟨_, e2, by simp [updL], by simp [updL], by simp [updL], by simp [updL]⟩, e3.1, e3.2⟩
end
section
variable {H0 H : AHeap} {rb : Nat} {d : List Nat} {bad : Bool}
theorem c_rclass (r : RdR H0 rb H d bad) : CW MN 65 [.ptr (some (rb, 0))] H fun w H' => NR rb H H' ∧ ∃ (c : UClass) (cs : List AV) (d' : List Nat) (bad' : Bool), w = .agg cs ∧ cs.length = 4 ∧ Fg H.next H' (fun K => ClE K c cs) ∧ RdR H0 rb H' d' bad' ∧ PX clB okCl d bad c d' bad' := by
  refine CW_of (fn := af65) rfl ?_
  dsimp only [af65, qm, q, qG, qn, qi, qb, qB, qk, qc, qo, qg, qv, qr]
  have hrb := r.lt
  have bk1 := Blk.new H [.str [], .int .i64 0, .int .i64 0, .slice none 1 0 true] (n := 4) rfl
  have s1 := Chg.newRow H [.str [], .int .i64 0, .int .i64 0, .slice none 1 0 true]
  have n1 : (H.newRow [.str [], .int .i64 0, .int .i64 0, .slice none 1 0 true]).next = H.next + 1 := rfl
  generalize eH1 : H.newRow [.str [], .int .i64 0, .int .i64 0, .slice none 1 0 true] = H1 at *
  have bk2 := Blk.new H1 [.str [], .int .i64 0, .int .i64 0, .slice none 1 0 true] (n := 4) rfl
  have s2 := Chg.newRow H1 [.str [], .int .i64 0, .int .i64 0, .slice none 1 0 true]
  have n2 : (H1.newRow [.str [], .int .i64 0, .int .i64 0, .slice none 1 0 true]).next = H1.next + 1 := rfl
  generalize eH2 : H1.newRow [.str [], .int .i64 0, .int .i64 0, .slice none 1 0 true] = H2 at *
  have bk1 := bk1.keep' s2.1 (s2.gt bk1.1)
  have s12 : Sm H H2 := s1.trans s2
  have r2 := r.sm s12
  obtain ⟨y2, hy2⟩ : ∃ y2, y2 = H.next := ⟨_, rfl⟩
  obtain ⟨y3, hy3⟩ : ∃ y3, y3 = H1.next := ⟨_, rfl⟩
  rw [← hy2] at bk1
  rw [← hy3] at bk2
  simp -implicitDefEqProofs only [eH1, eH2, ← hy2, ← hy3, go_sem]
  refine CW.mono (c_rnum r2) ?_
  rintro w G1 ⟨nr1, n, d1, b1, rfl, hn, r3, px1⟩
  simp -implicitDefEqProofs only [eH2, go_sem]
  refine CW.mono (c_cut r3 n) ?_
  rintro w G2 ⟨nr2, e, d2, b2, r4, fg2, cut⟩
  have sl2 := fg2.here
  have d1 := ByE.str sl2
  simp -implicitDefEqProofs only [d1, eH2, go_sem]
  refine CW.mono (c_rnum r4) ?_
  rintro w3 G3 ⟨nr3, x, d3, b3, rfl, hx, r5, px3⟩
  have fg3 := fg2.nr nr3 (by have := nr1.n; have := r3.lt; omega)
  have d3' := ByE.str fg3.here
  simp -implicitDefEqProofs only [d1, d3', eH2, go_sem]
  refine CW.mono (c_rnum r5) ?_
  rintro w4 G4 ⟨nr4, z, d4, b4', rfl, hz, r6, px4⟩
  have fg4 := fg3.nr nr4 (by have := nr1.n; have := r3.lt; omega)
  have d4' := ByE.str fg4.here
  have nrA : NR rb H2 G4 := nr1.trans (nr2.trans (nr3.trans nr4))
  have bk2 := bk2.keep' nrA.n (nrA.g _ bk2.1 (by omega))
  have bk1 := bk1.keep' nrA.n (nrA.g _ bk1.1 (by omega))
  obtain ⟨G5, e5, cb, n5, k5⟩ := CBk.new (s := e) (a := x) (b := z) (v := .slice none 1 0 true) bk2
  have fg5 := fg4.kp (H' := G5) (by omega) fun q h1 h2 => k5 q (by have := nr1.n; omega)
  have d5' := ByE.str fg5.here
  have r7 := r6.keep (H' := G5) (by omega) fun q _ h2 => k5 q (by omega)
  have hby := ByE.lt sl2
  have hel : e.length ≤ 65536 := Nat.le_trans cut.le r3.len
  have bk1 := bk1.keep' (H' := G5) (by omega) (k5 _ (by omega))
  generalize updL (fun _ => AV.nilFunc) 0 [AV.str [], AV.int IntKind.i64 0, AV.int IntKind.i64 0, AV.slice none 1 0 true] = f1 at bk1
  have nrB : NR rb H G5 := ⟨by have := nrA.n; omega, fun q h1 h2 => by rw [k5 q (by omega), nrA.g q (by omega) h2, s12.gt h1]⟩
  simp -implicitDefEqProofs only [d1, d3', d4', d5', e5, eH2, go_sem]
  refine CW.mono (c_rcount r7) ?_
  rintro w6 G6 ⟨nr6, n6, d6, b6, rfl, hn6, r8, px6⟩
  have ex0 : EXL prB okPr d4 b4' n6 0 [] d6 b6 := EXL.init (fun x => by rw [List.length_append, b4_len, b4_len]; omega) px6
  have cb6 := cb.keep nr6.n (nr6.g _ (by have := nrA.n; omega) (by omega))
  have bk6 := bk1.keep' nr6.n (nr6.g _ bk1.1 (by omega))
  have nr06 := nrB.trans nr6
  obtain ⟨lo, hlo⟩ : ∃ lo, lo = H2.next := ⟨_, rfl⟩
  have hG6 : lo ≤ G6.next := by have := nrA.n; have := nr6.n; omega
  clear cb r7 fg2 fg3 fg4 fg5 d1 d3' d4' d5' e5 k5 r6 r5 r4 r3 bk1
  simp -implicitDefEqProofs only [go_sem]
  refine WP_mono (Q := fun ex fr G => ex = .exit 0 ∧ ∃ l v d' b', l.length ≤ 65536 ∧ fr.get 2 = some (.ptr (some (y2, 0))) ∧ fr.get 3 = some (.ptr (some (y3, 0))) ∧ NR rb H G ∧ Blk G y2 4 f1 ∧ CBk G y3 e x z v ∧ GL lo PrE 2 G l v ∧ RdR H0 rb G d' b' ∧ PX (rowB prB) (fun l => ∀ x, x ∈ l → okPr x) d4 b4' l d' b') ?_ (WP_loop (fun m fr G => ∃ (j : Nat) (l : List Pr2) (v : AV) (d' : List Nat) (b' : Bool), m = n6 - j ∧ j ≤ n6 ∧ l.length = j ∧ fr.get 0 = some (.ptr (some (rb, 0))) ∧ fr.get 2 = some (.ptr (some (y2, 0))) ∧ fr.get 3 = some (.ptr (some (y3, 0))) ∧ fr.get 15 = some (.int .i64 n6) ∧ fr.get 16 = some (.int .i64 j) ∧ NR rb H G ∧ lo ≤ G.next ∧ Blk G y2 4 f1 ∧ CBk G y3 e x z v ∧ GL lo PrE 2 G l v ∧ RdR H0 rb G d' b' ∧ EXL prB okPr d4 b4' n6 j l d' b') n6 ?_ ?_)
  · rintro ex fr G ⟨rfl, l, v, d', b', hl, g2, g3, nr, bk, cb, gl, r', px⟩
    have l4 := cb.l4
    obtain ⟨G', e1, e2, e3⟩ := bk.stores (i := 0) (vs := [.str e, .int .i64 x, .int .i64 z, v]) (by simp)
    have cf : CBk G' y2 e x z v := ⟨_, e2, by simp [updL], by simp [updL], by simp [updL], by simp [updL]⟩
    have l4' := cf.l4
    simp -implicitDefEqProofs only [g2, g3, l4, e1, l4', go_sem]
    refine ⟨⟨by rw [e3.1]; exact nr.n, fun q h1 h2 => by rw [e3.2 q (by omega), nr.g q h1 h2]⟩, ⟨e, x, z, l⟩, [.str e, .int .i64 x, .int .i64 z, v], d', b', rfl, rfl, ?_, r'.keep (by rw [e3.1]; exact Nat.le_refl _) (fun q _ h2 => e3.2 q (by omega)), px_cl (px_text px1 cut) px3 px4 px⟩
    have f1 := (gl.fg (by unfold maxLen; omega)).kp (H' := G') (by rw [e3.1]; exact Nat.le_refl _) fun q h1 h2 => e3.2 q (by omega)
    refine Fg.low (lo := lo) (f1.map fun K hK => ⟨v, rfl, ⟨hby, by show e.length ≤ 9223372036854775807; omega⟩, hx.i64, hz.i64, hK⟩) (by omega)
  · refine ⟨0, [], .slice none 1 0 true, d6, b6, rfl, by omega, rfl, ?_⟩
    simp -implicitDefEqProofs only [go_sem]
    exact ⟨nr06, hG6, bk6, cb6, GL.nil, r8, ex0⟩
  · rintro m fr G ⟨j, l, v, d2, b2, hm, hj, hl, g0, g2, g3, g15, g16, nr, hlG, bk, cb, gl, r2, ex⟩
    have j0 : (0 : Int) ≤ j := by omega
    by_cases hlt : j < n6
    · have hlt' : (j : Int) < (n6 : Int) := by omega
      have hw := wrapS hlt (by omega)
      obtain ⟨va, vs0, vcl, rfl⟩ := gl.shape
      have q0 := cb.l3
      simp -implicitDefEqProofs only [g0, g2, g3, g15, g16, hlt', q0, go_sem]
      refine CW.mono (c_rnum r2) ?_
      rintro w G1 ⟨nr1, x1, d3, b3, rfl, hx1, r3, px1'⟩
      have cb1 := cb.keep nr1.n (nr1.g _ (by omega) (by omega))
      have q1 := cb1.l3
      simp -implicitDefEqProofs only [g0, g2, g3, g15, g16, q0, q1, go_sem]
      refine CW.mono (c_rnum r3) ?_
      rintro w G2 ⟨nr2, x2, d4', b4, rfl, hx2, r4, px2'⟩
      have cb2 := cb1.keep nr2.n (nr2.g _ (by have := nr1.n; omega) (by omega))
      have q2 := cb2.l3
      have nr12 := nr1.trans nr2
      have gl2 := gl.keep nr12.n fun q h1 h2 => nr12.g q h2 (by omega)
      have hlG2 : lo ≤ G2.next := Nat.le_trans hlG nr12.n
      obtain ⟨w2, G3, e1, gl3, hn3, hlow, -⟩ := gl2.push (a := (x1, x2)) (ys := [.int .i64 x1, .int .i64 x2]) (bytes := 16) hlG2 rfl (Fg.const ⟨rfl, hx1.i64, hx2.i64⟩) (by omega) (by omega)
      obtain ⟨wa, ws0, wcl, rfl⟩ := gl3.shape
      have sN := Chg.newRow G2 [.int .i64 x1, .int .i64 x2]
      have cbN := cb2.keep sN.1 (sN.gt (by omega))
      have qN := cbN.l3
      have cb3 := cb2.keep hn3 (hlow _ (by omega))
      have q3 := cb3.l3
      obtain ⟨G4, e2, cb4, n4, k4⟩ := cb3.st3 (.slice wa ws0 (l ++ [(x1, x2)]).length wcl)
      have bk4 := ((bk.keep' nr12.n (nr12.g _ bk.1 (by omega))).keep' hn3 (hlow _ (by omega))).keep' (H' := G4) (by omega) (k4 _ (by omega))
      have gl4 := gl3.keep (H' := G4) (by omega) fun q h1 h2 => k4 q (by omega)
      have r5 := (r4.keep hn3 fun q _ h2 => hlow q (by omega)).keep (H' := G4) (by omega) fun q _ h2 => k4 q (by omega)
      have nr4 : NR rb H G4 := ⟨by have := nr.n; have := nr12.n; omega, fun q h1 h2 => by rw [k4 q (by omega), hlow q (by omega), nr12.g q (by have := nr.n; omega) h2, nr.g q h1 h2]⟩
      simp -implicitDefEqProofs only [g0, g2, g3, g15, g16, q0, q1, q2, qN, q3, e1, e2, hw, go_sem]
      exact ⟨n6 - (j + 1), by omega, j + 1, l ++ [(x1, x2)], _, d4', b4, rfl, by omega, by simp [hl], rfl, nr4, by omega, bk4, cb4, gl4, r5, ex.step hlt (px_pr px1' px2')⟩
    · obtain rfl : j = n6 := by omega
      simp -implicitDefEqProofs only [g0, g2, g3, g15, g16, Int.lt_irrefl, Bool.false_eq_true, go_sem]
      exact ⟨l, v, d2, b2, by omega, nr, bk, cb, gl, r2, ex.fin⟩
end
set_option maxHeartbeats 16000000
def BkL (G : AHeap) (y : Nat) (l : List AV) : Prop := ∃ f, Blk G y l.length f ∧ ∀ j v, l[j]? = some v → f j = v
section
variable {G G' : AHeap} {y : Nat} {l : List AV}
theorem BkL.lt (h : BkL G y l) : y < G.next := by obtain ⟨f, h, -⟩ := h; exact h.1
theorem BkL.keep (h : BkL G y l) (hl : G.next ≤ G'.next) (hg : G'.get y = G.get y) : BkL G' y l := by
  obtain ⟨f, h1, h2⟩ := h
  exact ⟨f, h1.keep' hl hg, h2⟩
theorem BkL.ld (h : BkL G y l) {j : Nat} {v : AV} (hj : l[j]? = some v) : loadA G y j 1 = some [v] := by
  obtain ⟨f, h1, h2⟩ := h
  rw [h1.load (List.getElem?_eq_some_iff.1 hj).1, h2 j v hj]
theorem BkL.all (h : BkL G y l) : loadA G y 0 l.length = some l := by
  obtain ⟨f, h1, h2⟩ := h
  exact (h1.rd (i := 0) (vs := l) (by omega) fun j w hj => by rw [Nat.zero_add]; exact h2 j w hj).load rfl
theorem BkL.new (G : AHeap) (l : List AV) : BkL (G.newRow l) G.next l :=
  ⟨fun i => (l[i]?).getD .nilFunc, Blk.newRow G l _ fun i v hi => by rw [hi]; rfl, fun j v hj => by simp [hj]⟩
theorem BkL.st (h : BkL G y l) {i : Nat} (hi : i < l.length) (w : AV) : ∃ G', storeA G y i [w] = some G' ∧ BkL G' y (l.set i w) ∧ G'.next = G.next ∧ ∀ x, x ≠ y → G'.get x = G.get x := by
  obtain ⟨f, h1, h2⟩ := h
  obtain ⟨G', e1, e2, e3, e4⟩ := h1.store hi w
  refine ⟨G', e1, ⟨_, by rw [List.length_set]; exact e2, fun j v hj => ?_⟩, e3, e4⟩
  by_cases e : j = i
  · subst e
    rw [List.getElem?_set_self hi] at hj
    rw [upd_same]; exact Option.some.inj hj
  · rw [List.getElem?_set_ne (Ne.symm e)] at hj
    rw [upd_ne e]; exact h2 j v hj
theorem BkL.sts (h : BkL G y l) {vs : List AV} (hv : vs.length = l.length) : ∃ G', storeA G y 0 vs = some G' ∧ BkL G' y vs ∧ G'.next = G.next ∧ ∀ x, x ≠ y → G'.get x = G.get x := by
  obtain ⟨f, h1, h2⟩ := h
  obtain ⟨G', e1, e2, e3⟩ := h1.stores (i := 0) (vs := vs) (by omega)
  refine ⟨G', e1, ⟨_, by rw [hv]; exact e2, fun j v hj => ?_⟩, e3.1, e3.2⟩
  simp [updL, hj]
end
theorem px_me {d d1 d2 d3 d4 : List Nat} {b b1 b2 b3 b4' : Bool} {s : List Nat} {x y : Int} {l : List Pr2} (h1 : PX b4 I32 d b x d1 b1) (h2 : PX b4 I32 d1 b1 y d2 b2) (h3 : PX (rowB prB) (fun l => ∀ x, x ∈ l → okPr x) d2 b2 l d3 b3) (h4 : PX textB (fun s => s.length ≤ 2147483647) d3 b3 s d4 b4') : PX meB okMe d b ⟨x, y, l, s⟩ d4 b4' := fun c t hb hc hd => by
  obtain ⟨c1, c2, c3, c4⟩ := hc
  simp only [meB, List.append_assoc] at hd
  obtain ⟨q1, q2, q3⟩ := h1 _ _ hb c1 hd
  obtain ⟨r1, r2, r3⟩ := h2 _ _ q3 c2 q2
  obtain ⟨s1, s2, s3⟩ := h3 _ _ r3 c3.2 r2
  obtain ⟨t1, t2, t3⟩ := h4 _ _ s3 (by omega) s2
  exact ⟨by rw [q1, r1, s1, t1], t2, t3⟩
theorem px_ob {d d1 d2 : List Nat} {b b1 b2 : Bool} {x : Int} {l : List Pr2} (h1 : PX b4 I32 d b x d1 b1) (h2 : PX (rowB prB) (fun l => ∀ x, x ∈ l → okPr x) d1 b1 l d2 b2) : PX obB okOb d b ⟨x, l⟩ d2 b2 := fun c t hb hc hd => by
  obtain ⟨c1, c2⟩ := hc
  simp only [obB, List.append_assoc] at hd
  obtain ⟨q1, q2, q3⟩ := h1 _ _ hb c1 hd
  obtain ⟨r1, r2, r3⟩ := h2 _ _ q3 c2.2 q2
  exact ⟨by rw [q1, r1], r2, r3⟩
theorem px_un {d d1 d2 d3 d4 d5 : List Nat} {b b1 b2 b3 b4' b5 : Bool} {n : List (List Nat)} {c : List UClass} {m : List UMethod} {o : List UObj} {x : Int} (h1 : PX (rowB textB) (fun l => ∀ s, s ∈ l → s.length ≤ 2147483647) d b n d1 b1) (h2 : PX (rowB clB) (fun l => ∀ s, s ∈ l → okCl s) d1 b1 c d2 b2) (h3 : PX (rowB meB) (fun l => ∀ s, s ∈ l → okMe s) d2 b2 m d3 b3) (h4 : PX (rowB obB) (fun l => ∀ s, s ∈ l → okOb s) d3 b3 o d4 b4') (h5 : PX b4 I32 d4 b4' x d5 b5) : PX unB FitU d b ⟨n, c, m, o, x⟩ d5 b5 := fun u t hb hf hd => by
  simp only [unB, List.append_assoc] at hd
  obtain ⟨p1, p2, p3⟩ := h1 _ _ hb (fun s hs => by have := hf.n.2 s hs; omega) hd
  obtain ⟨q1, q2, q3⟩ := h2 _ _ p3 hf.c.2 p2
  obtain ⟨r1, r2, r3⟩ := h3 _ _ q3 hf.m.2 q2
  obtain ⟨s1, s2, s3⟩ := h4 _ _ r3 hf.o.2 r2
  obtain ⟨t1, t2, t3⟩ := h5 _ _ s3 hf.main s2
  exact ⟨by rw [p1, q1, r1, s1, t1], t2, t3⟩
section
variable {H0 H : AHeap} {rb : Nat} {d : List Nat} {bad : Bool}
structure UK (H0 H : AHeap) (rb y2 y3 lo : Nat) (G : AHeap) (l : List AV) (d : List Nat) (b : Bool) : Prop where
  nr : NR rb H G
  hl : lo ≤ G.next
  b2 : BkL G y2 [.slice none 1 0 true, .slice none 1 0 true, .slice none 1 0 true, .slice none 1 0 true, .int .i64 0]
  b3 : BkL G y3 l
  r : RdR H0 rb G d b
section
variable {y2 y3 lo : Nat} {G G' : AHeap} {l : List AV} {d' : List Nat} {b b' : Bool}
theorem UK.call (k : UK H0 H rb y2 y3 lo G l d b) (h : H.next ≤ y2 ∧ H.next ≤ y3 ∧ rb < H.next) (nr : NR rb G G') (r : RdR H0 rb G' d' b') : UK H0 H rb y2 y3 lo G' l d' b' :=
  ⟨k.nr.trans nr, Nat.le_trans k.hl nr.n, k.b2.keep nr.n (nr.g _ k.b2.lt (by omega)), k.b3.keep nr.n (nr.g _ k.b3.lt (by omega)), r⟩
theorem UK.grow (k : UK H0 H rb y2 y3 lo G l d b) (h : H.next ≤ lo ∧ y2 < lo ∧ y3 < lo ∧ rb < H.next) (hl : G.next ≤ G'.next) (hg : ∀ x, x < lo → G'.get x = G.get x) : UK H0 H rb y2 y3 lo G' l d b :=
  ⟨⟨Nat.le_trans k.nr.n hl, fun x h1 h2 => by rw [hg x (by omega), k.nr.g x h1 h2]⟩, Nat.le_trans k.hl hl, k.b2.keep hl (hg _ h.2.1), k.b3.keep hl (hg _ h.2.2.1), k.r.keep hl fun x _ h2 => hg x (by omega)⟩
theorem UK.st (k : UK H0 H rb y2 y3 lo G l d b) (h : H.next ≤ y3 ∧ y2 ≠ y3 ∧ rb < H.next) {i : Nat} (hi : i < l.length) (w : AV) : ∃ G', storeA G y3 i [w] = some G' ∧ UK H0 H rb y2 y3 lo G' (l.set i w) d b ∧ G'.next = G.next ∧ ∀ x, x ≠ y3 → G'.get x = G.get x := by
  obtain ⟨G', e1, e2, e3, e4⟩ := k.b3.st hi w
  have hle : G.next ≤ G'.next := by omega
  exact ⟨G', e1, ⟨⟨Nat.le_trans k.nr.n hle, fun x h1 h2 => by rw [e4 x (by omega), k.nr.g x h1 h2]⟩, Nat.le_trans k.hl hle, k.b2.keep hle (e4 _ (by omega)), e2, k.r.keep hle fun x _ h2 => e4 x (by omega)⟩, e3, e4⟩
theorem UK.fg (k : UK H0 H rb y2 y3 lo G l d b) {P : AHeap → Prop} (f : Fg lo G P) (nr : NR rb G G') (h : rb < lo) : Fg lo G' P := f.nr nr h
end
end
set_option maxHeartbeats 16000000
theorem Fg.and {lo : Nat} {H : AHeap} {P Q : AHeap → Prop} (h : Fg lo H P) (k : Fg lo H Q) : Fg lo H fun K => P K ∧ Q K := fun K a b => ⟨h K a b, k K a b⟩
theorem SlE.shape3 {α : Type} {E : Rep α} {s : Nat} {H : AHeap} {xs : List α} {v : AV} (h : SlE E s H xs [v]) : ∃ a s0 cl, v = .slice a s0 xs.length cl := by
  obtain ⟨a, s0, cl, e, -⟩ := h.shape
  exact ⟨a, s0, cl, e⟩
section
variable {H0 H : AHeap} {rb : Nat} {d : List Nat} {bad : Bool}
theorem c_runit (r : RdR H0 rb H d bad) : CW MN 36 [.ptr (some (rb, 0))] H fun w H' => NR rb H H' ∧ ∃ (u : UUnit) (cs : List AV) (d' : List Nat) (bad' : Bool), w = .agg cs ∧ UnE H' u cs ∧ RdR H0 rb H' d' bad' ∧ PX unB FitU d bad u d' bad' := by
  refine CW_of (fn := af36) rfl ?_
  dsimp only [af36, qm, q, qG, qn, qi, qb, qB, qk, qc, qo, qg, qv, qr]
  have hrb := r.lt
  have bk1 := BkL.new H [.slice none 1 0 true, .slice none 1 0 true, .slice none 1 0 true, .slice none 1 0 true, .int .i64 0]
  have s1 := Chg.newRow H [.slice none 1 0 true, .slice none 1 0 true, .slice none 1 0 true, .slice none 1 0 true, .int .i64 0]
  have n1 : (H.newRow [.slice none 1 0 true, .slice none 1 0 true, .slice none 1 0 true, .slice none 1 0 true, .int .i64 0]).next = H.next + 1 := rfl
  generalize eH1 : H.newRow [.slice none 1 0 true, .slice none 1 0 true, .slice none 1 0 true, .slice none 1 0 true, .int .i64 0] = H1 at *
  have bk2 := BkL.new H1 [.slice none 1 0 true, .slice none 1 0 true, .slice none 1 0 true, .slice none 1 0 true, .int .i64 0]
  have s2 := Chg.newRow H1 [.slice none 1 0 true, .slice none 1 0 true, .slice none 1 0 true, .slice none 1 0 true, .int .i64 0]
  have n2 : (H1.newRow [.slice none 1 0 true, .slice none 1 0 true, .slice none 1 0 true, .slice none 1 0 true, .int .i64 0]).next = H1.next + 1 := rfl
  generalize eH2 : H1.newRow [.slice none 1 0 true, .slice none 1 0 true, .slice none 1 0 true, .slice none 1 0 true, .int .i64 0] = H2 at *
  obtain ⟨y2, hy2⟩ : ∃ y2, y2 = H.next := ⟨_, rfl⟩
  obtain ⟨y3, hy3⟩ : ∃ y3, y3 = H1.next := ⟨_, rfl⟩
  obtain ⟨lo, hlo⟩ : ∃ lo, lo = H.next + 2 := ⟨_, rfl⟩
  have hA : H.next ≤ y2 ∧ H.next ≤ y3 ∧ rb < H.next := ⟨by omega, by omega, hrb⟩
  have hB : H.next ≤ lo ∧ y2 < lo ∧ y3 < lo ∧ rb < H.next := ⟨by omega, by omega, by omega, hrb⟩
  have hC : H.next ≤ y3 ∧ y2 ≠ y3 ∧ rb < H.next := ⟨by omega, by omega, hrb⟩
  have hD : rb < lo := by omega
  rw [← hy2] at bk1
  rw [← hy3] at bk2
  have k : UK H0 H rb y2 y3 lo H2 [.slice none 1 0 true, .slice none 1 0 true, .slice none 1 0 true, .slice none 1 0 true, .int .i64 0] d bad :=
    ⟨NR.of_sm (s1.trans s2), by omega, bk1.keep s2.1 (s2.gt bk1.lt), bk2, r.sm (s1.trans s2)⟩
  have px0 : True := trivial
  obtain ⟨P0, hP0⟩ : ∃ P0 : AHeap → Prop, P0 = fun _ => True := ⟨_, rfl⟩
  have fin : Fg lo H2 P0 := by rw [hP0]; exact Fg.const trivial
  simp -implicitDefEqProofs only [eH1, eH2, ← hy2, ← hy3, go_sem]
  refine CW.mono (c_rcount k.r) ?_
  rintro w Gn ⟨nrn, n, dn, bn, rfl, hn, rn, pxn⟩
  have kn := k.call hA nrn rn
  have finn := fin.nr nrn hD
  have ex0 := EXL.init (enc := textB) (ok := (fun s : List Nat => s.length ≤ 2147483647)) (fun x => by rw [textB, List.length_append, b4_len]; omega) pxn
  clear nrn pxn k rn fin
  simp -implicitDefEqProofs only [go_sem]
  refine WP_mono (Q := fun ex fr G => ex = .exit 0 ∧ ∃ (l : List (List Nat)) (v : AV) (d' : List Nat) (b' : Bool), l.length ≤ 65536 ∧ fr.get 0 = some (.ptr (some (rb, 0))) ∧ fr.get 2 = some (.ptr (some (y2, 0))) ∧ fr.get 3 = some (.ptr (some (y3, 0))) ∧ UK H0 H rb y2 y3 lo G [v, .slice none 1 0 true, .slice none 1 0 true, .slice none 1 0 true, .int .i64 0] d' b' ∧ Fg lo G P0 ∧ Fg lo G (fun K => SlE StE 1 K l [v]) ∧ PX (rowB textB) (fun l => ∀ s, s ∈ l → (fun s : List Nat => s.length ≤ 2147483647) s) d bad l d' b') ?_ (WP_loop (fun m fr G => ∃ (j : Nat) (l : List (List Nat)) (v : AV) (d' : List Nat) (b' : Bool), m = n - j ∧ j ≤ n ∧ l.length = j ∧ fr.get 0 = some (.ptr (some (rb, 0))) ∧ fr.get 2 = some (.ptr (some (y2, 0))) ∧ fr.get 3 = some (.ptr (some (y3, 0))) ∧ fr.get 5 = some (.int .i64 n) ∧ fr.get 6 = some (.int .i64 j) ∧ UK H0 H rb y2 y3 lo G [v, .slice none 1 0 true, .slice none 1 0 true, .slice none 1 0 true, .int .i64 0] d' b' ∧ GL lo StE 1 G l v ∧ Fg lo G P0 ∧ EXL textB (fun s : List Nat => s.length ≤ 2147483647) d bad n j l d' b') n ?_ ?_)
  rotate_left
  · refine ⟨0, [], .slice none 1 0 true, dn, bn, rfl, by omega, rfl, ?_⟩
    simp -implicitDefEqProofs only [go_sem]
    exact ⟨kn, GL.nil, finn, ex0⟩
  · clear kn finn ex0
    rintro m fr G ⟨j, l, v, dj, bj, hm, hj, hl, g0, g2, g3, g5, g6, k, gl, fin, ex⟩
    have j0 : (0 : Int) ≤ j := by omega
    by_cases hlt : j < n
    · have hlt' : (j : Int) < (n : Int) := by omega
      have hw := wrapS hlt (by omega)
      obtain ⟨va, vs0, vcl, rfl⟩ := gl.shape
      have q0 := k.b3.ld (j := 0) rfl
      simp -implicitDefEqProofs only [g0, g2, g3, g5, g6, hlt', q0, go_sem]
      refine CW.mono (c_rnum k.r) ?_
      rintro w G1 ⟨nr1, x, d3, b3, rfl, hx, r3, px1⟩
      have k1 := k.call hA nr1 r3
      have q1 := k1.b3.ld (j := 0) rfl
      simp -implicitDefEqProofs only [g0, g2, g3, g5, g6, q0, q1, go_sem]
      refine CW.mono (c_cut r3 x) ?_
      rintro w G2 ⟨nr2, e, d4, b4', r4, fg, cut⟩
      have k2 := k1.call hA nr2 r4
      have sl2 := fg.here
      have dd := ByE.str sl2
      have hby := ByE.lt sl2
      have hel : e.length ≤ 65536 := Nat.le_trans cut.le r3.len
      have nrE := nr1.trans nr2
      have pxE := px_text px1 cut
      have qs : True := trivial
      have q2 := k2.b3.ld (j := 0) rfl
      have gl2 := gl.keep nrE.n fun q h1 h2 => nrE.g q h2 (by omega)
      obtain ⟨w2, G3, e1, gl3, hn3, hlow, hfg⟩ := gl2.push (a := e) (ys := [.str e]) (bytes := 16) k2.hl rfl (Fg.const ⟨rfl, hby, by show e.length ≤ 9223372036854775807; omega⟩) (by omega) (by omega)
      obtain ⟨wa, ws0, wcl, rfl⟩ := gl3.shape
      have sN := Chg.newRow G2 [.str e]
      have kN := k2.b3.keep sN.1 (sN.gt k2.b3.lt)
      have qN := kN.ld (j := 0) rfl
      have k3 := k2.grow hB hn3 hlow
      have q3 := k3.b3.ld (j := 0) rfl
      obtain ⟨G4, e2, k4, n4, f4⟩ := k3.st hC (i := 0) (by simp) (.slice wa ws0 (l ++ [e]).length wcl)
      have gl4 := gl3.keep (H' := G4) (by omega) fun q h1 h2 => f4 q (by omega)
      have fin4 := ((hfg _ (fin.nr nrE hD))).kp (H' := G4) (by omega) fun q h1 h2 => f4 q (by omega)
      simp -implicitDefEqProofs only [g0, g2, g3, g5, g6, q0, q1, dd, q2, qN, q3, e1, e2, hw, go_sem]
      exact ⟨n - (j + 1), by omega, j + 1, l ++ [e], _, d4, b4', rfl, by omega, by simp [hl], rfl, k4, gl4, fin4, ex.step hlt pxE⟩
    · obtain rfl : j = n := by omega
      simp -implicitDefEqProofs only [g0, g2, g3, g5, g6, Int.lt_irrefl, Bool.false_eq_true, go_sem]
      exact ⟨l, v, dj, bj, by omega, k, fin, gl.fg (by unfold maxLen; omega), ex.fin⟩
  clear kn finn ex0
  rintro ex fr G ⟨rfl, l0, u0, e1, f1, hl0, g0, g2, g3, k, finP, finS, px1⟩
  obtain ⟨P1, hP1⟩ : ∃ P1 : AHeap → Prop, P1 = fun K => P0 K ∧ SlE StE 1 K l0 [u0] := ⟨_, rfl⟩
  have fin : Fg lo G P1 := by rw [hP1]; exact finP.and finS
  clear finP finS
  simp -implicitDefEqProofs only [g0, g2, g3, go_sem]
  refine CW.mono (c_rcount k.r) ?_
  rintro w Gn ⟨nrn, n, dn, bn, rfl, hn, rn, pxn⟩
  have kn := k.call hA nrn rn
  have finn := fin.nr nrn hD
  have ex0 := EXL.init (enc := clB) (ok := okCl) (fun x => by simp only [clB, textB, List.length_append, b4_len]; omega) pxn
  clear nrn pxn k rn fin
  simp -implicitDefEqProofs only [g2, g3, g0, go_sem]
  refine WP_mono (Q := fun ex fr G => ex = .exit 2 ∧ ∃ (l : List (UClass)) (v : AV) (d' : List Nat) (b' : Bool), l.length ≤ 65536 ∧ fr.get 0 = some (.ptr (some (rb, 0))) ∧ fr.get 2 = some (.ptr (some (y2, 0))) ∧ fr.get 3 = some (.ptr (some (y3, 0))) ∧ UK H0 H rb y2 y3 lo G [u0, v, .slice none 1 0 true, .slice none 1 0 true, .int .i64 0] d' b' ∧ Fg lo G P1 ∧ Fg lo G (fun K => SlE ClE 4 K l [v]) ∧ PX (rowB clB) (fun l => ∀ s, s ∈ l → okCl s) e1 f1 l d' b') ?_ (WP_loop (fun m fr G => ∃ (j : Nat) (l : List (UClass)) (v : AV) (d' : List Nat) (b' : Bool), m = n - j ∧ j ≤ n ∧ l.length = j ∧ fr.get 0 = some (.ptr (some (rb, 0))) ∧ fr.get 2 = some (.ptr (some (y2, 0))) ∧ fr.get 3 = some (.ptr (some (y3, 0))) ∧ fr.get 20 = some (.int .i64 n) ∧ fr.get 21 = some (.int .i64 j) ∧ UK H0 H rb y2 y3 lo G [u0, v, .slice none 1 0 true, .slice none 1 0 true, .int .i64 0] d' b' ∧ GL lo ClE 4 G l v ∧ Fg lo G P1 ∧ EXL clB okCl e1 f1 n j l d' b') n ?_ ?_)
  rotate_left
  · refine ⟨0, [], .slice none 1 0 true, dn, bn, rfl, by omega, rfl, ?_⟩
    simp -implicitDefEqProofs only [g2, g3, g0, go_sem]
    exact ⟨kn, GL.nil, finn, ex0⟩
  · clear kn finn ex0
    rintro m fr G ⟨j, l, v, dj, bj, hm, hj, hl, g0, g2, g3, g5, g6, k, gl, fin, ex⟩
    have j0 : (0 : Int) ≤ j := by omega
    by_cases hlt : j < n
    · have hlt' : (j : Int) < (n : Int) := by omega
      have hw := wrapS hlt (by omega)
      obtain ⟨va, vs0, vcl, rfl⟩ := gl.shape
      have q0 := k.b3.ld (j := 1) rfl
      simp -implicitDefEqProofs only [g0, g2, g3, g5, g6, hlt', q0, go_sem]
      refine CW.mono (c_rclass k.r) ?_
      rintro w G2 ⟨nrE, c, cs, d4, b4', rfl, hcs, fgc, r4, pxE⟩
      have k2 := k.call hA nrE r4
      have q2 := k2.b3.ld (j := 1) rfl
      have gl2 := gl.keep nrE.n fun q h1 h2 => nrE.g q h2 (by omega)
      obtain ⟨w2, G3, e1, gl3, hn3, hlow, hfg⟩ := gl2.push (a := c) (ys := cs) (bytes := 56) k2.hl hcs (fgc.low k.hl) (by omega) (by omega)
      obtain ⟨wa, ws0, wcl, rfl⟩ := gl3.shape
      have sN := Chg.newRow G2 cs
      have kN := k2.b3.keep sN.1 (sN.gt k2.b3.lt)
      have qN := kN.ld (j := 1) rfl
      have k3 := k2.grow hB hn3 hlow
      have q3 := k3.b3.ld (j := 1) rfl
      obtain ⟨G4, e2, k4, n4, f4⟩ := k3.st hC (i := 1) (by simp) (.slice wa ws0 (l ++ [c]).length wcl)
      have gl4 := gl3.keep (H' := G4) (by omega) fun q h1 h2 => f4 q (by omega)
      have fin4 := ((hfg _ (fin.nr nrE hD))).kp (H' := G4) (by omega) fun q h1 h2 => f4 q (by omega)
      simp -implicitDefEqProofs only [g0, g2, g3, g5, g6, q0, hcs, q2, qN, q3, e1, e2, hw, go_sem]
      exact ⟨n - (j + 1), by omega, j + 1, l ++ [c], _, d4, b4', rfl, by omega, by simp [hl], rfl, k4, gl4, fin4, ex.step hlt pxE⟩
    · obtain rfl : j = n := by omega
      simp -implicitDefEqProofs only [g0, g2, g3, g5, g6, Int.lt_irrefl, Bool.false_eq_true, go_sem]
      exact ⟨l, v, dj, bj, by omega, k, fin, gl.fg (by unfold maxLen; omega), ex.fin⟩
  clear kn finn ex0
  rintro ex fr G ⟨rfl, l1, u1, e2, f2, hl1, g0, g2, g3, k, finP, finS, px2⟩
  obtain ⟨P2, hP2⟩ : ∃ P2 : AHeap → Prop, P2 = fun K => P1 K ∧ SlE ClE 4 K l1 [u1] := ⟨_, rfl⟩
  have fin : Fg lo G P2 := by rw [hP2]; exact finP.and finS
  clear finP finS
  simp -implicitDefEqProofs only [g0, g2, g3, go_sem]
  refine CW.mono (c_rcount k.r) ?_
  rintro w Gn ⟨nrn, n, dn, bn, rfl, hn, rn, pxn⟩
  have kn := k.call hA nrn rn
  have finn := fin.nr nrn hD
  have ex0 := EXL.init (enc := meB) (ok := okMe) (fun x => by simp only [meB, List.length_append, b4_len]; omega) pxn
  clear nrn pxn k rn fin
  simp -implicitDefEqProofs only [g2, g3, g0, go_sem]
  refine WP_mono (Q := fun ex fr G => ex = .exit 4 ∧ ∃ (l : List (UMethod)) (v : AV) (d' : List Nat) (b' : Bool), l.length ≤ 65536 ∧ fr.get 0 = some (.ptr (some (rb, 0))) ∧ fr.get 2 = some (.ptr (some (y2, 0))) ∧ fr.get 3 = some (.ptr (some (y3, 0))) ∧ UK H0 H rb y2 y3 lo G [u0, u1, v, .slice none 1 0 true, .int .i64 0] d' b' ∧ Fg lo G P2 ∧ Fg lo G (fun K => SlE MeE 4 K l [v]) ∧ PX (rowB meB) (fun l => ∀ s, s ∈ l → okMe s) e2 f2 l d' b') ?_ (WP_loop (fun m fr G => ∃ (j : Nat) (l : List (UMethod)) (v : AV) (d' : List Nat) (b' : Bool), m = n - j ∧ j ≤ n ∧ l.length = j ∧ fr.get 0 = some (.ptr (some (rb, 0))) ∧ fr.get 2 = some (.ptr (some (y2, 0))) ∧ fr.get 3 = some (.ptr (some (y3, 0))) ∧ fr.get 32 = some (.int .i64 n) ∧ fr.get 33 = some (.int .i64 j) ∧ UK H0 H rb y2 y3 lo G [u0, u1, v, .slice none 1 0 true, .int .i64 0] d' b' ∧ GL lo MeE 4 G l v ∧ Fg lo G P2 ∧ EXL meB okMe e2 f2 n j l d' b') n ?_ ?_)
  rotate_left
  · refine ⟨0, [], .slice none 1 0 true, dn, bn, rfl, by omega, rfl, ?_⟩
    simp -implicitDefEqProofs only [g2, g3, g0, go_sem]
    exact ⟨kn, GL.nil, finn, ex0⟩
  · clear kn finn ex0
    rintro m fr G ⟨j, l, v, dj, bj, hm, hj, hl, g0, g2, g3, g5, g6, k, gl, fin, ex⟩
    have j0 : (0 : Int) ≤ j := by omega
    by_cases hlt : j < n
    · have hlt' : (j : Int) < (n : Int) := by omega
      have hw := wrapS hlt (by omega)
      obtain ⟨va, vs0, vcl, rfl⟩ := gl.shape
      have q0 := k.b3.ld (j := 2) rfl
      simp -implicitDefEqProofs only [g0, g2, g3, g5, g6, hlt', q0, go_sem]
      refine CW.mono (c_rnum k.r) ?_
      rintro w G1 ⟨nr1, x, d3, b3, rfl, hx, r3, px1⟩
      have k1 := k.call hA nr1 r3
      have q1 := k1.b3.ld (j := 2) rfl
      simp -implicitDefEqProofs only [g0, g2, g3, g5, g6, q0, q1, go_sem]
      refine CW.mono (c_rnum r3) ?_
      rintro w Ga ⟨nra, z, da, ba, rfl, hz, ra, px2⟩
      have ka := k1.call hA nra ra
      have qa := ka.b3.ld (j := 2) rfl
      simp -implicitDefEqProofs only [g0, g2, g3, g5, g6, q0, q1, qa, go_sem]
      refine CW.mono (c_rvals ra) ?_
      rintro wl Gb ⟨nrb, vl, db, bb, hvl, fgl, rb', px3⟩
      have kb := ka.call hA nrb rb'
      have qb := kb.b3.ld (j := 2) rfl
      simp -implicitDefEqProofs only [g0, g2, g3, g5, g6, q0, q1, qa, qb, go_sem]
      refine CW.mono (c_rnum rb') ?_
      rintro w Gc ⟨nrc, x5, dc, bc, rfl, hx5, rc, px4⟩
      have kc := kb.call hA nrc rc
      have qc := kc.b3.ld (j := 2) rfl
      simp -implicitDefEqProofs only [g0, g2, g3, g5, g6, q0, q1, qa, qb, qc, go_sem]
      refine CW.mono (c_cut rc x5) ?_
      rintro wc G2 ⟨nr2, e, d4, b4', r4, fgE, cut⟩
      have k2 := kc.call hA nr2 r4
      have nr1a := nr1.trans nra
      have nrE := nr1a.trans (nrb.trans (nrc.trans nr2))
      have pxE := px_me px1 px2 px3 (px_text px4 cut)
      have fgl2 : Fg lo G2 fun K => SlE PrE 2 K vl [wl] := (fgl.low (by have := k.hl; have := nr1a.n; omega)).nr (nrc.trans nr2) hD
      have fgE2 : Fg lo G2 fun K => SlE ByE 1 K e [wc] := fgE.low (by have := k.hl; have := nr1a.n; have := nrb.n; have := nrc.n; omega)
      have fgm : Fg lo G2 fun K => MeE K ⟨x, z, vl, e⟩ [.int .i64 x, .int .i64 z, wl, wc] := (fgl2.and fgE2).map fun K hK => ⟨wl, wc, rfl, hx.i64, hz.i64, hK.1, hK.2⟩
      obtain ⟨la, ls0, lcl, rfl⟩ := SlE.shape3 fgl.here
      obtain ⟨ea, es0, ecl, rfl⟩ := SlE.shape3 fgE.here
      have q2 := k2.b3.ld (j := 2) rfl
      have gl2 := gl.keep nrE.n fun q h1 h2 => nrE.g q h2 (by omega)
      obtain ⟨w2, G3, e1, gl3, hn3, hlow, hfg⟩ := gl2.push (a := (⟨x, z, vl, e⟩ : UMethod)) (ys := [.int .i64 x, .int .i64 z, .slice la ls0 vl.length lcl, .slice ea es0 e.length ecl]) (bytes := 64) k2.hl rfl fgm (by omega) (by omega)
      obtain ⟨wa, ws0, wcl, rfl⟩ := gl3.shape
      have sN := Chg.newRow G2 [.int .i64 x, .int .i64 z, .slice la ls0 vl.length lcl, .slice ea es0 e.length ecl]
      have kN := k2.b3.keep sN.1 (sN.gt k2.b3.lt)
      have qN := kN.ld (j := 2) rfl
      have k3 := k2.grow hB hn3 hlow
      have q3 := k3.b3.ld (j := 2) rfl
      obtain ⟨G4, e2, k4, n4, f4⟩ := k3.st hC (i := 2) (by simp) (.slice wa ws0 (l ++ [(⟨x, z, vl, e⟩ : UMethod)]).length wcl)
      have gl4 := gl3.keep (H' := G4) (by omega) fun q h1 h2 => f4 q (by omega)
      have fin4 := ((hfg _ (fin.nr nrE hD))).kp (H' := G4) (by omega) fun q h1 h2 => f4 q (by omega)
      simp -implicitDefEqProofs only [g0, g2, g3, g5, g6, q0, q1, qa, qb, qc, q2, qN, q3, e1, e2, hw, go_sem]
      exact ⟨n - (j + 1), by omega, j + 1, l ++ [(⟨x, z, vl, e⟩ : UMethod)], _, d4, b4', rfl, by omega, by simp [hl], rfl, k4, gl4, fin4, ex.step hlt pxE⟩
    · obtain rfl : j = n := by omega
      simp -implicitDefEqProofs only [g0, g2, g3, g5, g6, Int.lt_irrefl, Bool.false_eq_true, go_sem]
      exact ⟨l, v, dj, bj, by omega, k, fin, gl.fg (by unfold maxLen; omega), ex.fin⟩
  clear kn finn ex0
  rintro ex fr G ⟨rfl, l2, u2, e3, f3, hl2, g0, g2, g3, k, finP, finS, px3⟩
  obtain ⟨P3, hP3⟩ : ∃ P3 : AHeap → Prop, P3 = fun K => P2 K ∧ SlE MeE 4 K l2 [u2] := ⟨_, rfl⟩
  have fin : Fg lo G P3 := by rw [hP3]; exact finP.and finS
  clear finP finS
  simp -implicitDefEqProofs only [g0, g2, g3, go_sem]
  refine CW.mono (c_rcount k.r) ?_
  rintro w Gn ⟨nrn, n, dn, bn, rfl, hn, rn, pxn⟩
  have kn := k.call hA nrn rn
  have finn := fin.nr nrn hD
  have ex0 := EXL.init (enc := obB) (ok := okOb) (fun x => by simp only [obB, List.length_append, b4_len]; omega) pxn
  clear nrn pxn k rn fin
  simp -implicitDefEqProofs only [g2, g3, g0, go_sem]
  refine WP_mono (Q := fun ex fr G => ex = .exit 6 ∧ ∃ (l : List (UObj)) (v : AV) (d' : List Nat) (b' : Bool), l.length ≤ 65536 ∧ fr.get 0 = some (.ptr (some (rb, 0))) ∧ fr.get 2 = some (.ptr (some (y2, 0))) ∧ fr.get 3 = some (.ptr (some (y3, 0))) ∧ UK H0 H rb y2 y3 lo G [u0, u1, u2, v, .int .i64 0] d' b' ∧ Fg lo G P3 ∧ Fg lo G (fun K => SlE ObE 2 K l [v]) ∧ PX (rowB obB) (fun l => ∀ s, s ∈ l → okOb s) e3 f3 l d' b') ?_ (WP_loop (fun m fr G => ∃ (j : Nat) (l : List (UObj)) (v : AV) (d' : List Nat) (b' : Bool), m = n - j ∧ j ≤ n ∧ l.length = j ∧ fr.get 0 = some (.ptr (some (rb, 0))) ∧ fr.get 2 = some (.ptr (some (y2, 0))) ∧ fr.get 3 = some (.ptr (some (y3, 0))) ∧ fr.get 53 = some (.int .i64 n) ∧ fr.get 54 = some (.int .i64 j) ∧ UK H0 H rb y2 y3 lo G [u0, u1, u2, v, .int .i64 0] d' b' ∧ GL lo ObE 2 G l v ∧ Fg lo G P3 ∧ EXL obB okOb e3 f3 n j l d' b') n ?_ ?_)
  rotate_left
  · refine ⟨0, [], .slice none 1 0 true, dn, bn, rfl, by omega, rfl, ?_⟩
    simp -implicitDefEqProofs only [g2, g3, g0, go_sem]
    exact ⟨kn, GL.nil, finn, ex0⟩
  · clear kn finn ex0
    rintro m fr G ⟨j, l, v, dj, bj, hm, hj, hl, g0, g2, g3, g5, g6, k, gl, fin, ex⟩
    have j0 : (0 : Int) ≤ j := by omega
    by_cases hlt : j < n
    · have hlt' : (j : Int) < (n : Int) := by omega
      have hw := wrapS hlt (by omega)
      obtain ⟨va, vs0, vcl, rfl⟩ := gl.shape
      have q0 := k.b3.ld (j := 3) rfl
      simp -implicitDefEqProofs only [g0, g2, g3, g5, g6, hlt', q0, go_sem]
      refine CW.mono (c_rnum k.r) ?_
      rintro w G1 ⟨nr1, x, d3, b3, rfl, hx, r3, px1⟩
      have k1 := k.call hA nr1 r3
      have q1 := k1.b3.ld (j := 3) rfl
      simp -implicitDefEqProofs only [g0, g2, g3, g5, g6, q0, q1, go_sem]
      refine CW.mono (c_rvals r3) ?_
      rintro wl G2 ⟨nr2, vl, d4, b4', hvl, fgl, r4, px3⟩
      have k2 := k1.call hA nr2 r4
      have nrE := nr1.trans nr2
      have pxE := px_ob px1 px3
      have fgo : Fg lo G2 fun K => ObE K ⟨x, vl⟩ [.int .i64 x, wl] := (fgl.low (by have := k.hl; have := nr1.n; omega)).map fun K hK => ⟨wl, rfl, hx.i64, hK⟩
      obtain ⟨la, ls0, lcl, rfl⟩ := SlE.shape3 fgl.here
      have q2 := k2.b3.ld (j := 3) rfl
      have gl2 := gl.keep nrE.n fun q h1 h2 => nrE.g q h2 (by omega)
      obtain ⟨w2, G3, e1, gl3, hn3, hlow, hfg⟩ := gl2.push (a := (⟨x, vl⟩ : UObj)) (ys := [.int .i64 x, .slice la ls0 vl.length lcl]) (bytes := 32) k2.hl rfl fgo (by omega) (by omega)
      obtain ⟨wa, ws0, wcl, rfl⟩ := gl3.shape
      have sN := Chg.newRow G2 [.int .i64 x, .slice la ls0 vl.length lcl]
      have kN := k2.b3.keep sN.1 (sN.gt k2.b3.lt)
      have qN := kN.ld (j := 3) rfl
      have k3 := k2.grow hB hn3 hlow
      have q3 := k3.b3.ld (j := 3) rfl
      obtain ⟨G4, e2, k4, n4, f4⟩ := k3.st hC (i := 3) (by simp) (.slice wa ws0 (l ++ [(⟨x, vl⟩ : UObj)]).length wcl)
      have gl4 := gl3.keep (H' := G4) (by omega) fun q h1 h2 => f4 q (by omega)
      have fin4 := ((hfg _ (fin.nr nrE hD))).kp (H' := G4) (by omega) fun q h1 h2 => f4 q (by omega)
      simp -implicitDefEqProofs only [g0, g2, g3, g5, g6, q0, q1, q2, qN, q3, e1, e2, hw, go_sem]
      exact ⟨n - (j + 1), by omega, j + 1, l ++ [(⟨x, vl⟩ : UObj)], _, d4, b4', rfl, by omega, by simp [hl], rfl, k4, gl4, fin4, ex.step hlt pxE⟩
    · obtain rfl : j = n := by omega
      simp -implicitDefEqProofs only [g0, g2, g3, g5, g6, Int.lt_irrefl, Bool.false_eq_true, go_sem]
      exact ⟨l, v, dj, bj, by omega, k, fin, gl.fg (by unfold maxLen; omega), ex.fin⟩
  clear kn finn ex0
  rintro ex fr G ⟨rfl, l3, u3, e4, f4, hl3, g0, g2, g3, k, finP, finS, px4⟩
  obtain ⟨P4, hP4⟩ : ∃ P4 : AHeap → Prop, P4 = fun K => P3 K ∧ SlE ObE 2 K l3 [u3] := ⟨_, rfl⟩
  have fin : Fg lo G P4 := by rw [hP4]; exact finP.and finS
  clear finP finS
  simp -implicitDefEqProofs only [g0, g2, g3, go_sem]
  refine CW.mono (c_rnum k.r) ?_
  rintro w Gn ⟨nrn, x, dn, bn, rfl, hx, rn, pxn⟩
  have kn := k.call hA nrn rn
  have finn := fin.nr nrn hD
  obtain ⟨G4, e2, k4, n4, f4⟩ := kn.st hC (i := 4) (by simp) (.int .i64 x)
  have la := k4.b3.all
  obtain ⟨G5, e5, b5, n5, f5⟩ := k4.b2.sts (vs := [u0, u1, u2, u3, .int .i64 x]) rfl
  have lb := b5.all
  have fin5 := (finn.kp (H' := G4) (by omega) fun q h1 h2 => f4 q (by omega)).kp (H' := G5) (by omega) fun q h1 h2 => f5 q (by omega)
  have hf := fin5.here
  rw [hP4] at hf
  obtain ⟨hf, s4⟩ := hf
  rw [hP3] at hf
  obtain ⟨hf, s3⟩ := hf
  rw [hP2] at hf
  obtain ⟨hf, s2'⟩ := hf
  rw [hP1] at hf
  obtain ⟨-, s1'⟩ := hf
  obtain ⟨a0, b0, c0, rfl⟩ := SlE.shape3 s1'
  obtain ⟨a1, b1, c1, rfl⟩ := SlE.shape3 s2'
  obtain ⟨a2, b2, c2, rfl⟩ := SlE.shape3 s3
  obtain ⟨a3, b3, c3, rfl⟩ := SlE.shape3 s4
  have la' : loadA G4 y3 0 5 = _ := la
  have lb' : loadA G5 y2 0 5 = _ := lb
  simp only [List.set_cons_succ, List.set_cons_zero] at la'
  simp -implicitDefEqProofs only [g0, g2, g3, e2, la', e5, lb', go_sem]
  exact ⟨⟨by have := k4.nr.n; omega, fun q h1 h2 => by rw [f5 q (by omega), k4.nr.g q h1 h2]⟩, ⟨l0, l1, l2, l3, x⟩, _, dn, bn, rfl, ⟨_, _, _, _, rfl, hx.i64, s1', s2', s3, s4⟩, k4.r.keep (by omega) (fun q _ h2 => f5 q (by omega)), px_un px1 px2 px3 px4 pxn⟩
end
attribute [local go_sem ↓] exA_lookup stepA_lookup exA_mapUpd WP_seq WP_skip WP_region WP_dregion WP_cond WP_block WP_exit WP_ret OW_nil OW_cons DW_nil DW_cons XW_call reduceIte OW_guard DW_guard
attribute [local go_sem] LkA_some EvA_some updM_some at0 at1 XW exA KO_eq OptK_some EvK_some GW2_true GW2_false KS_normal KS_ret KS_exit KB_normal KB_ret KB_exit CP2_bool RP_ret putA_some putA_none ev_t ev_c evs evo wantA initA resA Tr.get_set vl chkOk cond_true cond_false Nat.add_zero Nat.mul_one Nat.one_mul Nat.zero_add Nat.zero_mul aggOf pInt binA unA intA beq_true beq_false Bool.not_true Bool.not_false Bool.not_eq_true and_self and_true true_and reduceIte Nat.reduceEqDiff Nat.succ_ne_self Nat.reduceAdd Nat.reduceMul Nat.reduceSub Nat.reduceBEq Nat.reduceLT Nat.reduceLeDiff Int.cast_ofNat_Int Int.reduceToNat Int.reduceLT Int.reduceLE Int.reduceGE Int.reduceGT Int.reduceEq Int.reduceNe Int.reduceAdd Int.reduceSub Int.reduceNeg decide_true decide_false Int.toNat_natCast reduceCtorEq List.nil_append List.cons_append AV.boxy AV.cells List.length_cons List.length_nil Nat.beq_refl AOp.cl KDW_0 KDW_1 KDW_2 OWskip_eq DWskip_eq fillA setAt DChk DAt stepA ble_dec beq_dec Bool.and_self Bool.and_true Bool.true_and Bool.and_false Bool.false_and List.take_succ_cons List.take_zero List.drop_succ_cons List.drop_zero List.take_nil List.drop_nil List.append_nil eqAV eqAVL BEq.rfl sameS Option.map Option.isNone wrap64 gt_iff_lt ge_iff_le Int.lt_irrefl Int.le_refl
set_option maxHeartbeats 8000000
def zU : UUnit := ⟨[], [], [], [], 0⟩
def ReadP (d : List Nat) (u : UUnit) (e : Int) : Prop := (65536 < d.length ∧ u = zU ∧ e = 3) ∨ (d.length ≤ 65536 ∧ unitP u = 0 ∧ d = bytesP u ∧ e = 0) ∨ (d.length ≤ 65536 ∧ (∀ v, unitP v = 0 → d ≠ bytesP v) ∧ u = zU ∧ e = 12)
theorem ReadP.uniq {d : List Nat} {u u' : UUnit} {e e' : Int} (h : ReadP d u e) (h' : ReadP d u' e') : u = u' ∧ e = e' := by
  rcases h with ⟨a1, a2, a3⟩ | ⟨a1, a2, a3, a4⟩ | ⟨a1, a2, a3, a4⟩ <;> rcases h' with ⟨b1, b2, b3⟩ | ⟨b1, b2, b3, b4⟩ | ⟨b1, b2, b3, b4⟩
  · exact ⟨a2.trans b2.symm, a3.trans b3.symm⟩
  · omega
  · omega
  · omega
  · exact ⟨bytesP_inj (fitU_of a2) (fitU_of b2) (a3.symm.trans b3), a4.trans b4.symm⟩
  · exact absurd a3 (b2 u a2)
  · omega
  · exact absurd b3 (a2 u' b2)
  · exact ⟨a3.trans b3.symm, a4.trans b4.symm⟩
def ReadR (d : List Nat) (w : AV) (H' : AHeap) : Prop := ∃ cs e u, w = .tuple [.agg cs, .int .i64 e] ∧ UnE H' u cs ∧ ReadP d u e
theorem zU_E (H : AHeap) : UnE H zU [.slice none 1 0 true, .slice none 1 0 true, .slice none 1 0 true, .slice none 1 0 true, .int .i64 0] :=
  ⟨_, _, _, _, rfl, ⟨by decide, by decide⟩, SlE.empty, SlE.empty, SlE.empty, SlE.empty⟩
theorem FitU.bnd {u : UUnit} (h : FitU u) : BndU u :=
  ⟨by have := h.n.1; omega, by have := h.c.1; omega, by have := h.m.1; omega, by have := h.o.1; omega, fun c hc => by have := (h.c.2 c hc).2.2.2.1; omega, fun c hc => by have := (h.m.2 c hc).2.2.1.1; omega, fun c hc => by have := (h.m.2 c hc).2.2.2; omega, fun c hc => by have := (h.o.2 c hc).2.1; omega⟩
theorem CpR.unK {H0 H' G : AHeap} {u : UUnit} {cu : List AV} (h : CpR H0 H' u cu) (k : KpM H0.next H' G) : UnE G u cu := by
  obtain ⟨lo, H1, H2, H3, v1, v2, v3, v4, rfl, hm, l0, l1, s, o1, k1, g2, l2, k23, g3, k3, g4, m2, m3, m4⟩ := h
  have q1 := k1.1; have q2 := k23.1; have q3 := k3.1
  exact ⟨v1, v2, v3, v4, rfl, hm, (o1.kp (Nat.le_refl _) (k1.trans (k.up (by omega)))).slE, (g2.kp ClO.mono (Nat.le_refl _) ((k23.trans k3).trans (k.up (by omega)))).slE ClO.cl m2, (g3.kp MeO.mono (m := H1.next) (by omega) (k3.trans (k.up (by omega)))).slE MeO.me m3, (g4.kp ObO.mono (m := H0.next) (by omega) k).slE ObO.ob m4⟩
theorem parse_ok {d d1 d2 : List Nat} {b1 b2 : Bool} {e0 : List Nat} {u : UUnit} (cut : CutR d false 4 e0 d1 b1) (px : PX unB FitU d1 b1 u d2 b2) {v : UUnit} (hv : unitP v = 0) (hd : d = bytesP v) : u = v ∧ b2 = false := by
  have h4 : (4 : Int).toNat = 4 := rfl
  have hl : 4 ≤ d.length := by rw [hd, bytesP, List.length_append, markB]; simp
  rcases cut with ⟨-, -, -, -, h2, h3⟩ | ⟨h1, -⟩
  · have e1 : d1 = unB v := by rw [h2, h4, hd]; rfl
    obtain ⟨q1, -, q3⟩ := px v [] h3 (fitU_of hv) (by rw [e1, List.append_nil])
    exact ⟨q1, q3⟩
  · exact absurd ⟨rfl, by omega, by omega⟩ h1
theorem c_Read {H : AHeap} {d : List Nat} {vb : AV} (hs : SlE ByE 1 H d [vb]) : CW MN 18 [vb] H fun w H' => Sm H H' ∧ ReadR d w H' := by
  refine CW_of (fn := af18) rfl ?_
  dsimp only [af18, qm, q, qG, qn, qi, qb, qB, qk, qc, qo, qg, qv, qr]
  have bk1 := BkL.new H [.slice none 1 0 true, .slice none 1 0 true, .slice none 1 0 true, .slice none 1 0 true, .int .i64 0]
  have s1 := Chg.newRow H [.slice none 1 0 true, .slice none 1 0 true, .slice none 1 0 true, .slice none 1 0 true, .int .i64 0]
  have n1 : (H.newRow [.slice none 1 0 true, .slice none 1 0 true, .slice none 1 0 true, .slice none 1 0 true, .int .i64 0]).next = H.next + 1 := rfl
  generalize eH1 : H.newRow [.slice none 1 0 true, .slice none 1 0 true, .slice none 1 0 true, .slice none 1 0 true, .int .i64 0] = H1 at *
  obtain ⟨y2, hy2⟩ : ∃ y2, y2 = H.next := ⟨_, rfl⟩
  rw [← hy2] at bk1
  obtain ⟨a, s0, cl, rfl⟩ := SlE.shape3 hs
  by_cases hlen : (65536 : Int) < (d.length : Int)
  · obtain ⟨G, e1, b1, m1, k1⟩ := bk1.sts (vs := [.slice none 1 0 true, .slice none 1 0 true, .slice none 1 0 true, .slice none 1 0 true, .int .i64 0]) rfl
    have l1 : loadA G y2 0 5 = some [.slice none 1 0 true, .slice none 1 0 true, .slice none 1 0 true, .slice none 1 0 true, .int .i64 0] := b1.all
    simp -implicitDefEqProofs only [eH1, ← hy2, hlen, e1, l1, go_sem]
    exact ⟨Sm.of (by omega) fun x hx => by rw [k1 x (by omega), s1.gt hx], _, 3, zU, rfl, zU_E G, .inl ⟨by omega, rfl, rfl⟩⟩
  have hlen' : d.length ≤ 65536 := by omega
  have bkr := Blk.newRow H1 [.slice a s0 d.length cl, .bool false] (rdF (.slice a s0 d.length cl) false) fun i v hi => by
    match i, hi with
    | 0, hi => simpa [rdF] using hi
    | 1, hi => simpa [rdF] using hi
  have s2 := Chg.newRow H1 [.slice a s0 d.length cl, .bool false]
  have n2 : (H1.newRow [.slice a s0 d.length cl, .bool false]).next = H1.next + 1 := rfl
  generalize eH2 : H1.newRow [.slice a s0 d.length cl, .bool false] = H2 at *
  have r2 : RdR H H1.next H2 d false := ⟨s1.trans s2, s1.1, hlen', _, bkr, hs⟩
  obtain ⟨rb, hrb⟩ : ∃ rb, rb = H1.next := ⟨_, rfl⟩
  rw [← hrb] at r2
  have bk2 := bk1.keep s2.1 (s2.gt bk1.lt)
  simp -implicitDefEqProofs only [eH1, ← hy2, hlen, eH2, ← hrb, Bool.false_eq_true, go_sem]
  refine CW.mono (c_cut r2 4) ?_
  rintro w0 H3 ⟨nr3, e0, d1, b1, r3, -, cut⟩
  simp -implicitDefEqProofs only [go_sem]
  refine CW.mono (c_runit r3) ?_
  rintro w H4 ⟨nr4, u, cs, d2, b2, rfl, hu, r4, px⟩
  have nrA := nr3.trans nr4
  have bk4 := bk2.keep nrA.n (nrA.g _ bk2.lt (by omega))
  have smA : Sm H H4 := r4.s
  obtain ⟨v1, v2, v3, v4, rfl, hmn, q1, q2, q3, q4⟩ := hu
  obtain ⟨H5, st5, n5, s5, rd5⟩ := store_new H4 [.slice none 1 0 true, .slice none 1 0 true, .slice none 1 0 true, .slice none 1 0 true, .int .i64 0] [v1, v2, v3, v4, iv u.main] rfl
  have l5 := rd5.load (n := 5) rfl
  have hu5 : UnE H5 u [v1, v2, v3, v4, iv u.main] := MonoE.un _ _ _ _ ⟨v1, v2, v3, v4, rfl, hmn, q1, q2, q3, q4⟩ s5
  unfold iv at *
  simp -implicitDefEqProofs only [st5, l5, go_sem]
  refine CW.mono (c_iBytes hu5) ?_
  rintro w6 H6 ⟨s6, hbr⟩
  have s56 := s5.trans s6
  obtain ⟨vs6, -, lb, -, -⟩ := (r4.sm s56).ld
  have bk6 := bk4.keep s56.1 (s56.gt bk4.lt)
  have sm6 : Sm H H6 := smA.trans s56
  have l6 : loadA H6 H4.next 0 5 = some [v1, v2, v3, v4, .int .i64 u.main] := by rw [s6.ld rd5.1]; exact l5
  have hsh : ∃ bb why, w6 = .tuple [bb, .int .i64 why] ∧ ((why ≠ 0 ∧ unitP u ≠ 0) ∨ (why = 0 ∧ unitP u = 0 ∧ SlE ByE 1 H6 (bytesP u) [bb])) := by
    rcases hbr with ⟨h1, h2⟩ | ⟨h1, b, h2, h3, -⟩
    · exact ⟨_, _, h2, .inl ⟨h1, h1⟩⟩
    · exact ⟨_, _, h2, .inr ⟨rfl, h1, h3⟩⟩
  obtain ⟨bb, why, rfl, hwhy⟩ := hsh
  obtain ⟨G, g1, g2, g3, g4⟩ := bk6.sts (vs := [.slice none 1 0 true, .slice none 1 0 true, .slice none 1 0 true, .slice none 1 0 true, .int .i64 0]) rfl
  have lG : loadA G y2 0 5 = some [.slice none 1 0 true, .slice none 1 0 true, .slice none 1 0 true, .slice none 1 0 true, .int .i64 0] := g2.all
  have smG : Sm H G := Sm.of (by have := sm6.1; omega) fun x hx => by rw [g4 x (by omega), sm6.gt hx]
  have fail : ¬ (b2 = false ∧ unitP u = 0 ∧ bytesP u = d) → Sm H G ∧ ReadR d (.tuple [.agg [.slice none 1 0 true, .slice none 1 0 true, .slice none 1 0 true, .slice none 1 0 true, .int .i64 0], .int .i64 12]) G := fun hf =>
    ⟨smG, _, 12, zU, rfl, zU_E G, .inr (.inr ⟨hlen', fun v hv hd => hf (by
      obtain ⟨p1, p2⟩ := parse_ok cut px hv hd
      exact ⟨p2, by rw [p1]; exact hv, by rw [p1]; exact hd.symm⟩), rfl, rfl⟩)⟩
  cases hb2 : b2 with
  | true =>
    rw [hb2] at lb fail
    simp -implicitDefEqProofs only [lb, g1, lG, eqA, eqD, go_sem]
    exact fail (by simp)
  | false =>
    rw [hb2] at lb fail
    rcases hwhy with ⟨w1, w2⟩ | ⟨rfl, w2, w3⟩
    · have w1' : (why != 0) = true := by simp [w1]
      simp -implicitDefEqProofs only [lb, g1, lG, w1', Bool.false_eq_true, eqA, eqD, go_sem]
      exact fail fun h => w2 h.2.1
    · obtain ⟨ab, sb, cb, rfl⟩ := SlE.shape3 w3
      simp -implicitDefEqProofs only [lb, bne_self_eq_false, Bool.false_eq_true, eqA, eqD, go_sem]
      refine CW.mono (c_eqBy (f := 37) rfl w3 (MonoE.enc.sl _ _ _ _ hs sm6)) ?_
      rintro w7 H7 ⟨rfl, rfl⟩
      by_cases he : bytesP u = d
      · have hfit := fitU_of w2
        simp -implicitDefEqProofs only [he, decide_true, l6, Bool.false_eq_true, eqA, eqD, go_sem]
        refine CW.mono (c_Copy (MonoE.un _ _ _ _ hu5 s6) hfit.bnd) ?_
        rintro w8 H8 ⟨cs8, rfl, cp⟩
        have s8 := cp.sm
        have bk8 := bk6.keep s8.1 (s8.gt bk6.lt)
        obtain ⟨x1, x2, x3, x4, hcs8, -⟩ := cp.un
        obtain ⟨G', e1, e2, e3, e4⟩ := bk8.sts (vs := cs8) (by rw [hcs8]; rfl)
        have un := cp.unK (G := G') ⟨by omega, fun z h1 _ => e4 z (by have := bk6.lt; omega)⟩
        subst hcs8
        have lf : loadA G' y2 0 5 = some [x1, x2, x3, x4, iv u.main] := e2.all
        unfold iv at *
        obtain ⟨y1, y2', y3, y4, hy, hm9, z1, z2, z3, z4⟩ := id un
        simp only [List.cons.injEq, and_true] at hy
        obtain ⟨rfl, rfl, rfl, rfl, -⟩ := hy
        obtain ⟨t1, t2, t3, rfl⟩ := SlE.shape3 z1
        obtain ⟨t4, t5, t6, rfl⟩ := SlE.shape3 z2
        obtain ⟨t7, t8, t9, rfl⟩ := SlE.shape3 z3
        obtain ⟨t10, t11, t12, rfl⟩ := SlE.shape3 z4
        simp -implicitDefEqProofs only [e1, lf, eqA, eqD, go_sem]
        exact ⟨Sm.of (by have := sm6.1; have := s8.1; omega) fun x hx => by rw [e4 x (by omega), s8.gt (by have := sm6.1; omega), sm6.gt hx], _, 0, u, rfl, un, .inr (.inl ⟨hlen', w2, he.symm, rfl⟩)⟩
      · simp -implicitDefEqProofs only [he, decide_false, g1, lG, Bool.not_false, eqA, eqD, go_sem]
        exact fail fun h => he h.2.2
end Go.Proofs.YtojeldemfccilaaGreatDoor.AA
