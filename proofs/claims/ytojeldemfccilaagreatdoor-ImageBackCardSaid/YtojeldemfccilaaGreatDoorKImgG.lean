/- Bytes that grow: image.Bytes, and the document's. -/
import Derived.Test.YtojeldemfccilaaGreatDoorKImgF
set_option linter.unusedSimpArgs false
set_option linter.unusedVariables false
namespace Go.Proofs.YtojeldemfccilaaGreatDoor.AA
open Go Go.RowKit
set_option maxRecDepth 100000
set_option maxHeartbeats 4000000
attribute [local irreducible] Tr.set
def BG (lo : Nat) (H : AHeap) (c : List Nat) (v : AV) : Prop := Sl H (fun z => lo ≤ z) 1 v c.length (c.flatMap byC) ∧ ∀ x, x ∈ c → x < 256
structure BS (v w : AV) (H H' : AHeap) : Prop where
  n : H.next ≤ H'.next
  k : ∀ x, x < H.next → ub v ≠ some x → H'.get x = H.get x
  u : ∀ x, x < H.next → ub w = some x → ub v = some x
section
variable {lo : Nat} {H H' H2 H0 : AHeap} {c d : List Nat} {v w z : AV}
theorem BS.refl (v : AV) (H : AHeap) : BS v v H H := ⟨Nat.le_refl _, fun _ _ _ => rfl, fun _ _ h => h⟩
theorem BS.of_sm (s : Sm H H') : BS v v H H' := ⟨s.1, fun _ hx _ => s.gt hx, fun _ _ h => h⟩
theorem BS.trans (a : BS v w H H') (b : BS w z H' H2) : BS v z H H2 :=
  ⟨Nat.le_trans a.n b.n, fun x hx hu => by rw [b.k x (Nat.lt_of_lt_of_le hx a.n) (fun e => hu (a.u x hx e)), a.k x hx hu], fun x hx e => a.u x hx (b.u x (Nat.lt_of_lt_of_le hx a.n) e)⟩
theorem BG.ge (h : BG lo H c v) {x : Nat} (hx : ub v = some x) : lo ≤ x := h.1.ubD hx
theorem BS.sm (b : BS v w H H') (h : BG lo H c v) (hlo : H0.next ≤ lo) (s : Sm H0 H) : Sm H0 H' :=
  Sm.of (Nat.le_trans s.1 b.n) fun x hx => by rw [b.k x (Nat.lt_of_lt_of_le hx s.1) (fun e => by have := h.ge e; omega), s.gt hx]
theorem BG.sm (h : BG lo H c v) (s : Sm H H') : BG lo H' c v := ⟨Sl.keep h.1 s.1 fun x _ hl => s.gt hl, h.2⟩
theorem BG.shape (h : BG lo H c v) : ∃ a s0 cl, v = .slice a s0 c.length cl := by
  rcases h.1 with ⟨⟨s0, rfl⟩, -, h0⟩ | ⟨x, i, cl, rfl, -⟩
  · exact ⟨none, s0, true, by rw [h0]⟩
  · exact ⟨_, _, _, rfl⟩
theorem BG.slE (h : BG lo H c v) (hm : c.length ≤ maxLen) : SlE ByE 1 H c [v] := h.1.slE rfl hm fun j hj => ⟨bytes_at hj, h.2 _ (List.getElem_mem hj)⟩
theorem BG.nil (lo : Nat) (H : AHeap) : BG lo H [] (.slice none 1 0 true) := ⟨.inl ⟨⟨1, rfl⟩, rfl, rfl⟩, by simp⟩
theorem byC_len (c : List Nat) : (c.flatMap byC).length = c.length := by rw [bytes_map]; simp
theorem BG.app (h : BG lo H c v) (hlo : lo ≤ H.next) {str : Bool} {y : AV} (hs : srcA H 1 str y = some (d.flatMap byC, d.length)) (hd : ∀ x, x ∈ d → x < 256) (hb : c.length + d.length ≤ 140737488355328) : ∃ w H', appendF H 1 1 str v y = some (w, H') ∧ BG lo H' (c ++ d) w ∧ BS v w H H' := by
  by_cases h0 : d = []
  · subst h0
    refine ⟨v, H, h.1.append0 hs, ?_, BS.refl v H⟩
    rw [List.append_nil]; exact h
  · have hl : d.length ≠ 0 := fun e => h0 (List.eq_nil_of_length_eq_zero e)
    obtain ⟨H', e1, e2, e3, e4⟩ := h.1.append (bytes := 1) hs (by rw [byC_len]; omega) hl (by omega) hb
    refine ⟨_, H', e1, ⟨?_, fun x hx => ?_⟩, ⟨e3.1, fun x hx hu => e3.keep hx hu, fun x hx e => ?_⟩⟩
    · rw [List.length_append, List.flatMap_append]
      exact Sl.mono e4 fun y hy => by omega
    · rcases List.mem_append.1 hx with hx | hx
      · exact h.2 x hx
      · exact hd x hx
    · obtain rfl : H.next = x := Option.some.inj e
      omega
theorem BG.push (h : BG lo H c v) (hlo : lo ≤ H.next) (hd : ∀ x, x ∈ d → x < 256) (hb : c.length + d.length ≤ 140737488355328) : ∃ w H', appendF (H.newRow (d.flatMap byC)) 1 1 false v (.slice (some (H.next, 0)) 1 d.length true) = some (w, H') ∧ BG lo H' (c ++ d) w ∧ BS v w H H' := by
  have s1 := Chg.newRow H (d.flatMap byC)
  have hn : lo ≤ (H.newRow (d.flatMap byC)).next := Nat.le_trans hlo s1.1
  obtain ⟨w, H', e1, e2, e3⟩ := (h.sm s1).app hn (d := d) (srcA_slice (Rd.newRow H (d.flatMap byC)) (by rw [byC_len]; omega)) hd hb
  exact ⟨w, H', e1, e2, (BS.of_sm s1).trans e3⟩
theorem BG.str (h : BG lo H c v) (hlo : lo ≤ H.next) (hd : ∀ x, x ∈ d → x < 256) (hb : c.length + d.length ≤ 140737488355328) : ∃ w H', appendF H 1 1 true v (.str d) = some (w, H') ∧ BG lo H' (c ++ d) w ∧ BS v w H H' :=
  h.app hlo (by rw [bytes_map]; rfl) hd hb
end
set_option maxHeartbeats 4000000
theorem Seal.trans {H H' H2 : AHeap} {x : Nat} (a : Seal H H' x) (b : Seal H' H2 x) : Seal H H2 x := by
  rcases a with a | ⟨c, k, par, a1, a2⟩
  · rcases b with b | ⟨c, k, par, b1, b2⟩
    · exact .inl (b.trans a)
    · exact .inr ⟨c, k, par, by rw [← a, b1], b2⟩
  · rcases b with b | ⟨c', k', par', b1, b2⟩
    · exact .inr ⟨c, k, par, a1, by rw [b, a2]⟩
    · rw [a2] at b1; cases b1
def Fg (lo : Nat) (H : AHeap) (P : AHeap → Prop) : Prop := ∀ H', H.next ≤ H'.next → (∀ x, lo ≤ x → x < H.next → Seal H H' x) → P H'
section
variable {lo lo' : Nat} {H H' : AHeap} {P Q : AHeap → Prop}
theorem Fg.here (h : Fg lo H P) : P H := h H (Nat.le_refl _) fun _ _ _ => .inl rfl
theorem Fg.map (h : Fg lo H P) (f : ∀ H, P H → Q H) : Fg lo H Q := fun H' a b => f _ (h H' a b)
theorem Fg.low (h : Fg lo H P) (hl : lo' ≤ lo) : Fg lo' H P := fun H' a b => h H' a fun x h1 h2 => b x (by omega) h2
theorem Fg.step (h : Fg lo H P) (hl : H.next ≤ H'.next) (hs : ∀ x, lo ≤ x → x < H.next → Seal H H' x) : Fg lo H' P := fun H2 a b => h H2 (Nat.le_trans hl a) fun x h1 h2 => (hs x h1 h2).trans (b x h1 (by omega))
theorem Fg.kp (h : Fg lo H P) (hl : H.next ≤ H'.next) (hs : ∀ x, lo ≤ x → x < H.next → H'.get x = H.get x) : Fg lo H' P := h.step hl fun x a b => .inl (hs x a b)
theorem Fg.sm (h : Fg lo H P) (s : Sm H H') : Fg lo H' P := h.kp s.1 fun x _ b => s.gt b
theorem Fg.const {p : Prop} (h : p) : Fg lo H fun _ => p := fun _ _ _ => h
theorem Rd.fg {x i : Nat} {cs : List AV} (h : Rd H x i cs) (hx : lo ≤ x) : Fg lo H fun H' => Rd H' x i cs := fun _ a b => h.kseal a (b x hx h.1)
end
section
variable {α : Type} {E : Rep α} {lo s : Nat} {H H' : AHeap} {xs : List α} {v : AV}
def GL (lo : Nat) (E : Rep α) (s : Nat) (H : AHeap) (xs : List α) (v : AV) : Prop := ∃ cs, Sl H (fun z => lo ≤ z) s v xs.length cs ∧ ∀ j (hj : j < xs.length), Fg lo H fun H' => E H' xs[j] ((cs.drop (j * s)).take s)
theorem GL.nil : GL lo E s H [] (.slice none 1 0 true) := ⟨[], .inl ⟨⟨1, rfl⟩, rfl, rfl⟩, fun j hj => absurd hj (by simp)⟩
theorem GL.keep (h : GL lo E s H xs v) (hl : H.next ≤ H'.next) (hg : ∀ x, lo ≤ x → x < H.next → H'.get x = H.get x) : GL lo E s H' xs v := by
  obtain ⟨cs, h1, h2⟩ := h
  exact ⟨cs, h1.keep hl hg, fun j hj => (h2 j hj).kp hl hg⟩
theorem GL.fg (h : GL lo E s H xs v) (hm : xs.length ≤ maxLen) : Fg lo H fun H' => SlE E s H' xs [v] := by
  obtain ⟨cs, h1, h2⟩ := h
  intro H' a b
  rcases h1 with ⟨⟨s0, rfl⟩, -, h0⟩ | ⟨x, i, cl, rfl, hx, hl, hr, -⟩
  · exact ⟨none, s0, true, by rw [h0], .inl rfl, hm, fun h => absurd h0 h⟩
  · exact ⟨_, _, _, rfl, .inr rfl, hm, fun _ => ⟨x, i, cs, rfl, hr.kseal a (b x hx hr.1), hl, fun j hj => h2 j hj H' a b⟩⟩
theorem GL.push (h : GL lo E s H xs v) {a : α} {ys : List AV} {bytes : Nat} (hlo : lo ≤ H.next) (hys : ys.length = s) (he : Fg lo H fun H' => E H' a ys) (hb : (xs.length + 1) * bytes ≤ 140737488355328) (hm : xs.length + 1 ≤ 140737488355328) :
    ∃ w H', appendF (H.newRow ys) s bytes false v (.slice (some (H.next, 0)) s 1 true) = some (w, H') ∧ GL lo E s H' (xs ++ [a]) w ∧ H.next ≤ H'.next ∧ (∀ x, x < lo → H'.get x = H.get x) ∧ ∀ P, Fg lo H P → Fg lo H' P := by
  obtain ⟨cs, h1, h2⟩ := h
  obtain ⟨H', e1, e2, e3, e4⟩ := h1.push1 (bytes := bytes) hys hb hm
  have hcl : cs.length = xs.length * s := by
    rcases h1 with ⟨-, rfl, h0⟩ | ⟨x, i, cl, -, -, hl, -⟩
    · rw [h0]; simp
    · exact hl
  have fr : ∀ P, Fg lo H P → Fg lo H' P := fun P hP => hP.step e3.1 fun x _ hx => (e3.2 x hx).1
  refine ⟨_, H', e1, ⟨cs ++ ys, ?_, fun j hj => ?_⟩, e3.1, fun x hx => e3.keep (by omega) fun e => by have : lo ≤ x := h1.ubD e; omega, fr⟩
  · rw [List.length_append]
    exact Sl.mono e4 fun y hy => by omega
  · rw [List.length_append, List.length_singleton] at hj
    by_cases hjl : j < xs.length
    · have e : ((cs ++ ys).drop (j * s)).take s = (cs.drop (j * s)).take s := by
        have : (j + 1) * s ≤ xs.length * s := Nat.mul_le_mul_right s (by omega)
        rw [Nat.add_mul, Nat.one_mul] at this
        rw [List.drop_append_of_le_length (by omega), List.take_append_of_le_length (by simp; omega)]
      rw [List.getElem_append_left hjl, e]
      exact fr _ (h2 j hjl)
    · obtain rfl : j = xs.length := by omega
      have e : ((cs ++ ys).drop (xs.length * s)).take s = ys := by
        rw [← hcl, List.drop_left, List.take_of_length_le (by omega)]
      rw [List.getElem_append_right (Nat.le_refl _), e]
      simp only [Nat.sub_self, List.getElem_cons_zero]
      exact fr _ he
end
section
variable {α : Type} {E : Rep α} {s : Nat} {H : AHeap} {xs : List α} {v : AV}
theorem SlE.cut0 {s0 n : Nat} {cl : Bool} (h : SlE E s H xs [.slice none s0 n cl]) : xs = [] ∧ n = 0 := by
  have hn := h.len
  by_cases h0 : xs.length = 0
  · exact ⟨List.eq_nil_of_length_eq_zero h0, by omega⟩
  · obtain ⟨x, o, l, e, -⟩ := h.at (i := 0) (by omega)
    cases e
theorem SlE.sub {x o n : Nat} {cl : Bool} (h : SlE E s H xs [.slice (some (x, o)) s n cl]) {i j : Nat} (hi : i ≤ j) (hj : j ≤ xs.length) (cl' : Bool) : SlE E s H ((xs.drop i).take (j - i)) [.slice (some (x, o + i * s)) s (j - i) cl'] := by
  obtain ⟨a, s0, cl0, e, k0, k1, k⟩ := h
  cases e
  have hlen : ((xs.drop i).take (j - i)).length = j - i := by simp; omega
  refine ⟨_, _, _, by rw [hlen], .inr rfl, by omega, fun h0 => ?_⟩
  obtain ⟨x', o', cs, e, hr, hl, hE⟩ := k (by omega)
  cases e
  have hb : j * s ≤ xs.length * s := Nat.mul_le_mul_right s hj
  have hb2 : i * s ≤ j * s := Nat.mul_le_mul_right s hi
  have hsub : (j - i) * s = j * s - i * s := Nat.sub_mul j i s
  rcases hr.part (i * s) ((j - i) * s) with hr' | hr'
  · refine ⟨x, o + i * s, _, rfl, hr', by rw [List.length_take, List.length_drop, hlen]; omega, fun q hq => ?_⟩
    rw [hlen] at hq
    have e1 : ((xs.drop i).take (j - i))[q] = xs[i + q]'(by omega) := by rw [List.getElem_take, List.getElem_drop]
    have hq1 : (q + 1) * s ≤ (j - i) * s := Nat.mul_le_mul_right s (by omega)
    rw [Nat.add_mul, Nat.one_mul] at hq1
    have e2 : ((((cs.drop (i * s)).take ((j - i) * s)).drop (q * s)).take s) = (cs.drop ((i + q) * s)).take s := by
      rw [List.drop_take, List.drop_drop, List.take_take, Nat.add_mul, Nat.min_eq_left (by omega)]
    rw [e1, e2]
    exact hE (i + q) (by omega)
  · omega
theorem SlE.pre' {x o s0 n : Nat} {cl : Bool} (h : SlE E s H xs [.slice (some (x, o)) s0 n cl]) {k : Nat} (hk : k ≤ xs.length) (cl' : Bool) : SlE E s H (xs.take k) [.slice (some (x, o)) s0 k cl'] := by
  obtain rfl : s0 = s := by
    obtain ⟨a, s0', cl0, e, k0, -⟩ := h
    cases e
    rcases k0 with k0 | k0
    · cases k0
    · exact k0
  have := h.sub (i := 0) (j := k) (by omega) hk cl'
  rwa [List.drop_zero, Nat.sub_zero, Nat.zero_mul, Nat.add_zero] at this
theorem SlE.suf {x o s0 n : Nat} {cl : Bool} (h : SlE E s H xs [.slice (some (x, o)) s0 n cl]) {k : Nat} (hk : k ≤ xs.length) (cl' : Bool) : SlE E s H (xs.drop k) [.slice (some (x, o + k * s0)) s0 (xs.length - k) cl'] := by
  obtain rfl : s0 = s := by
    obtain ⟨a, s0', cl0, e, k0, -⟩ := h
    cases e
    rcases k0 with k0 | k0
    · cases k0
    · exact k0
  have := h.sub (i := k) (j := xs.length) hk (Nat.le_refl _) cl'
  rwa [List.take_of_length_le (by simp)] at this
end
attribute [local go_sem ↓] WP_seq WP_skip WP_region WP_dregion WP_cond WP_block WP_exit WP_ret OW_nil OW_cons DW_nil DW_cons XW_call reduceIte OW_guard DW_guard
attribute [local go_sem] XW exA KO_eq OptK_some EvK_some GW2_true GW2_false KS_normal KS_ret KS_exit KB_normal KB_ret KB_exit CP2_bool RP_ret putA_some putA_none ev_t ev_c evs evo wantA initA resA Tr.get_set vl chkOk cond_true cond_false Nat.add_zero Nat.mul_one Nat.one_mul Nat.zero_add Nat.zero_mul aggOf pInt binA unA intA beq_true beq_false Bool.not_true Bool.not_false Bool.not_eq_true and_self and_true true_and reduceIte Nat.reduceEqDiff Nat.succ_ne_self Nat.reduceAdd Nat.reduceMul Nat.reduceSub Nat.reduceBEq Nat.reduceLT Nat.reduceLeDiff Int.cast_ofNat_Int Int.reduceToNat Int.reduceLT Int.reduceLE Int.reduceGE Int.reduceGT Int.reduceEq Int.reduceNe Int.reduceAdd Int.reduceSub Int.reduceNeg decide_true decide_false Int.toNat_natCast reduceCtorEq List.nil_append List.cons_append AV.boxy AV.cells List.length_cons List.length_nil Nat.beq_refl AOp.cl KDW_0 KDW_1 KDW_2 OWskip_eq DWskip_eq fillA setAt DChk DAt stepA ble_dec beq_dec Bool.and_self Bool.and_true Bool.true_and Bool.and_false Bool.false_and List.take_succ_cons List.take_zero List.drop_succ_cons List.drop_zero List.take_nil List.drop_nil List.append_nil eqAV eqAVL BEq.rfl sameS Option.map Option.isNone wrap64 gt_iff_lt ge_iff_le Int.lt_irrefl Int.le_refl
set_option maxHeartbeats 4000000
theorem shr32 {a k : Nat} {j : IntKind} (hk : k ≤ 32) : binA .shr (.sc .int) (.int .u32 (a : Int)) (.int j (k : Int)) = some (.int .u32 ((a / 2 ^ k : Nat) : Int)) := by
  have : min ((k : Int).toNat) (IntKind.u32.bits) = k := by simp [IntKind.bits]; omega
  show (if (k : Int) < 0 then none else some (AV.int .u32 ((a : Int).fdiv (2 ^ (min ((k : Int).toNat) IntKind.u32.bits))))) = _
  rw [if_neg (by omega), this]
  congr 2
  rw [Int.fdiv_eq_ediv_of_nonneg _ (by exact Int.le_of_lt (Int.pow_pos (by omega)))]
  norm_cast
def u32 (n : Int) : Nat := (n % 4294967296).toNat
theorem wrapU32 (n : Int) : IntKind.u32.wrap (IntKind.i32.wrap n) = (u32 n : Int) := by
  unfold u32
  have h1 : IntKind.i32.wrap n = if n % 4294967296 ≥ 2147483648 then n % 4294967296 - 4294967296 else n % 4294967296 := by
    unfold IntKind.wrap
    simp [IntKind.signed, IntKind.bits]
  have h2 : ∀ m : Int, IntKind.u32.wrap m = m % 4294967296 := fun m => by
    unfold IntKind.wrap
    simp [IntKind.signed, IntKind.bits]
  rw [h1, h2]
  split <;> omega
theorem convI32 (n : Int) (G : AHeap) : convA (.int .i32) (.int .i64 n) G = some (.int .i32 (IntKind.i32.wrap n), G) := rfl
theorem convU32 (n : Int) (G : AHeap) : convA (.int .u32) (.int .i32 (IntKind.i32.wrap n)) G = some (.int .u32 (u32 n : Int), G) := by
  rw [← wrapU32]; rfl
theorem convU8 (a : Nat) (G : AHeap) : convA (.int .u8) (.int .u32 (a : Int)) G = some (.int .u8 ((a % 256 : Nat) : Int), G) := by
  have : IntKind.u8.wrap (a : Int) = ((a % 256 : Nat) : Int) := by
    have h : IntKind.u8.wrap (a : Int) = (a : Int) % 256 := rfl
    rw [h]; omega
  rw [← this]; rfl
theorem b4_u32 (n : Int) : b4 n = [u32 n / 2 ^ 24 % 256, u32 n / 2 ^ 16 % 256, u32 n / 2 ^ 8 % 256, u32 n % 256] := by
  unfold b4 u32
  simp only [List.cons.injEq, and_true, Nat.reducePow]
  omega
theorem b4_at (n : Int) {i : Nat} (hi : i < 4) : (b4 n)[i]? = some (u32 n / 2 ^ ((3 - i) * 8) % 256) := by
  rw [b4_u32]
  match i, hi with
  | 0, _ => rfl
  | 1, _ => rfl
  | 2, _ => rfl
  | 3, _ => simp
theorem flat_take {α : Type} {f : α → List Nat} {l : List α} {j : Nat} (h : j < l.length) : (l.take (j + 1)).flatMap f = (l.take j).flatMap f ++ f l[j] := by
  rw [List.take_add_one, List.getElem?_eq_getElem h, List.flatMap_append]
  simp
theorem flat4 (l : List Int) : (l.flatMap b4).length = 4 * l.length := by
  induction l with
  | nil => rfl
  | cons a l ih => rw [List.flatMap_cons, List.length_append, b4_len, ih, List.length_cons]; omega
section
variable {lo : Nat} {H H0 : AHeap} {c : List Nat} {v : AV}
theorem BG.num1 (h : BG lo H c v) (hlo : lo ≤ H.next) {x : Nat} (hx : x < 256) (hb : c.length + 1 ≤ 140737488355328) : ∃ w H', appendF (H.newRow [.int .u8 (x : Int)]) 1 1 false v (.slice (some (H.next, 0)) 1 1 true) = some (w, H') ∧ BG lo H' (c ++ [x]) w ∧ BS v w H H' :=
  h.push hlo (d := [x]) (by simpa using hx) (by simpa using hb)
theorem c_inum (h : BG lo H c v) (hlo : lo ≤ H.next) {yl : Nat} {l : List Int} (hl : Rd H yl 0 (l.map iv)) (hne : ub v ≠ some yl) (hc : c.length + 4 * l.length ≤ 10000000) : CW MN 31 [v, .slice (some (yl, 0)) 1 l.length true] H fun w H' => BG lo H' (c ++ l.flatMap b4) w ∧ BS v w H H' := by
  refine CW_of (fn := af31) rfl ?_
  dsimp only [af31, qm, q, qG, qn, qi, qb, qB, qk, qc, qo, qg, qv, qr]
  simp -implicitDefEqProofs only [go_sem]
  refine WP_mono (Q := fun ex fr H' => ex = .exit 0 ∧ ∃ w, fr.get 0 = some w ∧ BG lo H' (c ++ l.flatMap b4) w ∧ BS v w H H') ?_ (WP_loop (fun m fr H' => ∃ (j : Nat) (w : AV), m = l.length - j ∧ j ≤ l.length ∧ fr.get 0 = some w ∧ fr.get 8 = some (.slice (some (yl, 0)) 1 l.length true) ∧ fr.get 9 = some (.int .i64 l.length) ∧ fr.get 10 = some (.int .i64 j) ∧ BG lo H' (c ++ (l.take j).flatMap b4) w ∧ BS v w H H') l.length ?_ ?_)
  · rintro ex fr G ⟨rfl, w, g0, bg, bs⟩
    simp -implicitDefEqProofs only [g0, go_sem]
    exact ⟨bg, bs⟩
  · refine ⟨0, v, rfl, by omega, ?_⟩
    simp -implicitDefEqProofs only [go_sem]
    rw [List.flatMap_nil, List.append_nil]
    exact ⟨h, BS.refl v H⟩
  · rintro m fr G ⟨j, w, hm, hj, g0, g8, g9, g10, bg, bs⟩
    have j0 : (0 : Int) ≤ j := by omega
    by_cases hlt : j < l.length
    · have hlt' : (j : Int) < (l.length : Int) := by omega
      have hw := wrapS hlt (by omega)
      have ld := (hl.keep bs.n (bs.k yl hl.1 hne)).one (j := j) (v := iv l[j]) (by rw [List.getElem?_map, List.getElem?_eq_getElem hlt]; rfl)
      rw [Nat.zero_add] at ld
      have ef := flat_take (f := b4) hlt
      have hfl : ((l.take j).flatMap b4).length = 4 * j := by rw [flat4, List.length_take]; omega
      generalize l[j] = n at *
      simp -implicitDefEqProofs only [g0, g8, g9, g10, hlt', j0, ld, iv, go_sem]
      refine WP_mono (Q := fun ex fr H' => ex = .exit 2 ∧ fr.get 8 = some (.slice (some (yl, 0)) 1 l.length true) ∧ fr.get 9 = some (.int .i64 l.length) ∧ fr.get 10 = some (.int .i64 j) ∧ ∃ w, fr.get 0 = some w ∧ BG lo H' (c ++ (l.take (j + 1)).flatMap b4) w ∧ BS v w H H') ?_ (WP_loop (fun m fr H' => ∃ (i : Nat) (w : AV), m = 4 - i ∧ i ≤ 4 ∧ fr.get 0 = some w ∧ fr.get 6 = some (.int .i64 n) ∧ fr.get 7 = some (.int .i64 (3 - (i : Int))) ∧ fr.get 8 = some (.slice (some (yl, 0)) 1 l.length true) ∧ fr.get 9 = some (.int .i64 l.length) ∧ fr.get 10 = some (.int .i64 j) ∧ BG lo H' (c ++ (l.take j).flatMap b4 ++ (b4 n).take i) w ∧ BS v w H H') 4 ?_ ?_)
      · rintro ex fr G ⟨rfl, g8, g9, g10, w, g0, bg, bs⟩
        simp -implicitDefEqProofs only [g0, g8, g9, g10, hw, go_sem]
        exact ⟨l.length - (j + 1), by omega, j + 1, w, rfl, by omega, rfl, rfl, bg, bs⟩
      · refine ⟨0, w, rfl, by omega, ?_⟩
        simp -implicitDefEqProofs only [g0, g8, g9, g10, go_sem]
        exact ⟨bg, bs⟩
      · rintro m' fr G ⟨i, w, hm', hi, g0, g6, g7, g8, g9, g10, bg, bs⟩
        by_cases hi4 : i < 4
        · have e7 : (3 : Int) - (i : Int) = ((3 - i : Nat) : Int) := by omega
          have k0 : (0 : Int) ≤ ((3 - i : Nat) : Int) := by omega
          have hw1 : IntKind.i64.wrap (((3 - i : Nat) : Int) * 8) = (((3 - i) * 8 : Nat) : Int) := by rw [wrap64 (by omega) (by omega)]; omega
          have hw2 : IntKind.i64.wrap (((3 - i : Nat) : Int) - 1) = 3 - ((i + 1 : Nat) : Int) := by rw [wrap64 (by omega) (by omega)]; omega
          have sh := shr32 (a := u32 n) (k := (3 - i) * 8) (j := .i64) (by omega)
          have bat := b4_at n hi4
          have x256 : u32 n / 2 ^ ((3 - i) * 8) % 256 < 256 := Nat.mod_lt _ (by omega)
          have c1 := convI32 n
          have c2 := convU32 n
          have c3 := convU8 (u32 n / 2 ^ ((3 - i) * 8))
          generalize u32 n / 2 ^ ((3 - i) * 8) = q at *
          have hlen : (c ++ (l.take j).flatMap b4 ++ (b4 n).take i).length + 1 ≤ 140737488355328 := by
            simp only [List.length_append, hfl, List.length_take, b4_len]; omega
          obtain ⟨w2, G2, e1, bg2, bs2⟩ := bg.num1 (Nat.le_trans hlo bs.n) x256 hlen
          rw [e7] at g7
          generalize 3 - i = t at *
          simp -implicitDefEqProofs only [g0, g6, g7, g8, g9, g10, k0, hw1, hw2, c1, c2, ↓sh, c3, e1, go_sem]
          refine ⟨4 - (i + 1), by omega, i + 1, w2, rfl, by omega, rfl, rfl, ?_, bs.trans bs2⟩
          rw [List.take_add_one, bat, ← List.append_assoc]
          exact bg2
        · obtain rfl : i = 4 := by omega
          have k0 : ¬ (0 : Int) ≤ 3 - ((4 : Nat) : Int) := by omega
          simp -implicitDefEqProofs only [g0, g6, g7, g8, g9, g10, k0, Bool.false_eq_true, go_sem]
          refine ⟨_, rfl, ?_, bs⟩
          rw [ef, ← List.append_assoc]
          exact bg
    · obtain rfl : j = l.length := by omega
      simp -implicitDefEqProofs only [g0, g8, g9, g10, Int.lt_irrefl, Bool.false_eq_true, go_sem]
      rw [List.take_length] at bg
      exact ⟨w, rfl, bg, bs⟩
end
set_option maxHeartbeats 4000000
section
variable {lo : Nat} {H H0 : AHeap} {c : List Nat} {v : AV}
theorem BG.lt (h : BG lo H c v) {x : Nat} (hx : ub v = some x) : x < H.next := by
  rcases h.1 with ⟨⟨s0, rfl⟩, -⟩ | ⟨y, i, cl, rfl, -, -, hr, -⟩
  · cases hx
  · cases cl with
    | true => cases hx
    | false =>
      obtain rfl : y = x := Option.some.inj hx
      exact hr.1
theorem c_itext (h : BG lo H c v) (hlo : lo ≤ H.next) {s : List Nat} (hs : ∀ x, x ∈ s → x < 256) (hc : c.length + 4 + s.length ≤ 10000000) : CW MN 32 [v, .str s] H fun w H' => BG lo H' (c ++ textB s) w ∧ BS v w H H' := by
  refine CW_of (fn := af32) rfl ?_
  dsimp only [af32, qm, q, qG, qn, qi, qb, qB, qk, qc, qo, qg, qv, qr]
  have r1 := Rd.newRow H [.int .i64 (s.length : Int)]
  have s1 := Chg.newRow H [.int .i64 (s.length : Int)]
  generalize eH1 : H.newRow [.int .i64 (s.length : Int)] = H1 at *
  simp -implicitDefEqProofs only [eH1, go_sem]
  refine CW.mono (c_inum (l := [(s.length : Int)]) (h.sm s1) (Nat.le_trans hlo s1.1) r1 (fun e => by have := h.lt e; omega) (by simp; omega)) ?_
  rintro w H2 ⟨bg, bs⟩
  have e4 : ([(s.length : Int)].flatMap b4) = b4 s.length := by simp
  rw [e4] at bg
  obtain ⟨w2, H3, e1, bg2, bs2⟩ := bg.str (Nat.le_trans hlo (Nat.le_trans s1.1 bs.n)) hs (by rw [List.length_append, b4_len]; omega)
  simp -implicitDefEqProofs only [e1, go_sem]
  unfold textB
  rw [← List.append_assoc]
  exact ⟨bg2, (BS.of_sm s1).trans (bs.trans bs2)⟩
theorem prB_len (l : List Pr2) : (l.flatMap prB).length = 8 * l.length := by
  induction l with
  | nil => rfl
  | cons a l ih => rw [List.flatMap_cons, List.length_append, ih, List.length_cons, List.length_append, b4_len, b4_len]; omega
theorem c_ivals (h : BG lo H c v) (hlo : lo ≤ H.next) {l : List Pr2} {vl : AV} (s0 : Sm H0 H) (h0 : H0.next ≤ lo) (hl : SlE PrE 2 H0 l [vl]) (hc : c.length + 4 + 8 * l.length ≤ 10000000) : CW MN 33 [v, vl] H fun w H' => BG lo H' (c ++ rowB prB l) w ∧ BS v w H H' := by
  refine CW_of (fn := af33) rfl ?_
  dsimp only [af33, qm, q, qG, qn, qi, qb, qB, qk, qc, qo, qg, qv, qr]
  obtain ⟨a, z0, cl, rfl, -⟩ := hl.shape
  have r1 := Rd.newRow H [.int .i64 (l.length : Int)]
  have s1 := Chg.newRow H [.int .i64 (l.length : Int)]
  generalize eH1 : H.newRow [.int .i64 (l.length : Int)] = H1 at *
  simp -implicitDefEqProofs only [eH1, go_sem]
  refine CW.mono (c_inum (l := [(l.length : Int)]) (h.sm s1) (Nat.le_trans hlo s1.1) r1 (fun e => by have := h.lt e; omega) (by simp; omega)) ?_
  rintro w H2 ⟨bg, bs⟩
  have e4 : ([(l.length : Int)].flatMap b4) = b4 l.length := by simp
  rw [e4] at bg
  have bs' := (BS.of_sm (v := v) s1).trans bs
  simp -implicitDefEqProofs only [go_sem]
  refine WP_mono (Q := fun ex fr H' => ex = .exit 0 ∧ ∃ w, fr.get 0 = some w ∧ BG lo H' (c ++ rowB prB l) w ∧ BS v w H H') ?_ (WP_loop (fun m fr H' => ∃ (j : Nat) (w : AV), m = l.length - j ∧ j ≤ l.length ∧ fr.get 0 = some w ∧ fr.get 12 = some (.slice a z0 l.length cl) ∧ fr.get 13 = some (.int .i64 l.length) ∧ fr.get 14 = some (.int .i64 j) ∧ BG lo H' (c ++ b4 l.length ++ (l.take j).flatMap prB) w ∧ BS v w H H') l.length ?_ ?_)
  · rintro ex fr G ⟨rfl, w, g0, bg, bs⟩
    simp -implicitDefEqProofs only [g0, go_sem]
    exact ⟨bg, bs⟩
  · refine ⟨0, w, rfl, by omega, ?_⟩
    simp -implicitDefEqProofs only [go_sem]
    rw [List.flatMap_nil, List.append_nil]
    exact ⟨bg, bs'⟩
  · rintro m fr G ⟨j, w, hm, hj, g0, g12, g13, g14, bg, bs⟩
    have j0 : (0 : Int) ≤ j := by omega
    by_cases hlt : j < l.length
    · have hlt' : (j : Int) < (l.length : Int) := by omega
      have hw := wrapS hlt (by omega)
      have hlG := MonoE.enc.sl _ _ _ _ hl (bs.sm h h0 s0)
      obtain ⟨x, o, cs, rfl, rfl, ld, hl2, ⟨rfl, -⟩, -⟩ := hlG.at hlt
      have ef := flat_take (f := prB) hlt
      have hfl : ((l.take j).flatMap prB).length = 8 * j := by rw [prB_len, List.length_take]; omega
      generalize l[j] = p at *
      obtain ⟨G1, st, n1, sm1, r1⟩ := store_new G [.int .i64 0, .int .i64 0] (prC p) rfl
      have l0 := r1.one (j := 0) (v := iv p.1) rfl
      have l1 := r1.one (j := 1) (v := iv p.2) rfl
      rw [Nat.zero_add] at l0 l1
      unfold prC iv at *
      have r2 := Rd.newRow G1 [.int .i64 p.1, .int .i64 p.2]
      have s2 := Chg.newRow G1 [.int .i64 p.1, .int .i64 p.2]
      generalize eG2 : G1.newRow [.int .i64 p.1, .int .i64 p.2] = G2 at *
      have s12 : Sm G G2 := sm1.trans s2
      simp -implicitDefEqProofs only [g0, g12, g13, g14, hlt', j0, ld, st, l0, l1, eG2, go_sem]
      refine CW.mono (c_inum (l := [p.1, p.2]) (bg.sm s12) (Nat.le_trans hlo (Nat.le_trans bs.n s12.1)) r2 (fun e => by have := bg.lt e; have := sm1.1; omega) (by simp only [List.length_append, b4_len, hfl, List.length_cons, List.length_nil]; omega)) ?_
      rintro w3 G3 ⟨bg3, bs3⟩
      simp -implicitDefEqProofs only [g0, g12, g13, g14, hw, go_sem]
      refine ⟨l.length - (j + 1), by omega, j + 1, w3, rfl, by omega, rfl, rfl, ?_, bs.trans ((BS.of_sm s12).trans bs3)⟩
      rw [ef, ← List.append_assoc]
      have e2 : [p.1, p.2].flatMap b4 = prB p := by simp
      rwa [e2] at bg3
    · obtain rfl : j = l.length := by omega
      simp -implicitDefEqProofs only [g0, g12, g13, g14, Int.lt_irrefl, Bool.false_eq_true, go_sem]
      rw [List.take_length, List.append_assoc] at bg
      exact ⟨w, rfl, bg, bs⟩
end
set_option maxHeartbeats 8000000
def WB (H1 : AHeap) (lo : Nat) (G : AHeap) (c : List Nat) (v : AV) : Prop := BG lo G c v ∧ Sm H1 G ∧ lo ≤ G.next ∧ H1.next ≤ lo
section
variable {lo : Nat} {H1 G G' : AHeap} {c c' : List Nat} {v w : AV}
theorem WB.sm (h : WB H1 lo G c v) (s : Sm G G') : WB H1 lo G' c v := ⟨h.1.sm s, h.2.1.trans s, Nat.le_trans h.2.2.1 s.1, h.2.2.2⟩
theorem WB.of (h : WB H1 lo G c v) (bg : BG lo G' c' w) (bs : BS v w G G') : WB H1 lo G' c' w := ⟨bg, bs.sm h.1 h.2.2.2 h.2.1, Nat.le_trans h.2.2.1 bs.n, h.2.2.2⟩
theorem w_num (h : WB H1 lo G c v) (l : List Int) (hc : c.length + 4 * l.length ≤ 10000000) : CW MN 31 [v, .slice (some (G.next, 0)) 1 l.length true] (G.newRow (l.map iv)) fun w G' => WB H1 lo G' (c ++ l.flatMap b4) w ∧ BS v w G G' := by
  have s := Chg.newRow G (l.map iv)
  refine CW.mono (c_inum (h.1.sm s) (Nat.le_trans h.2.2.1 s.1) (Rd.newRow G (l.map iv)) (fun e => by have := h.1.lt e; omega) hc) ?_
  rintro w G' ⟨bg, bs⟩
  have bs' := (BS.of_sm (v := v) s).trans bs
  exact ⟨h.of bg bs', bs'⟩
theorem w_num1 (h : WB H1 lo G c v) (n : Int) (hc : c.length + 4 ≤ 10000000) : CW MN 31 [v, .slice (some (G.next, 0)) 1 1 true] (G.newRow [.int .i64 n]) fun w G' => WB H1 lo G' (c ++ b4 n) w := by
  refine CW.mono (w_num h [n] (by simpa using hc)) ?_
  rintro w G' ⟨h1, -⟩
  have e : [n].flatMap b4 = b4 n := by simp
  rwa [e] at h1
theorem w_text (h : WB H1 lo G c v) {s : List Nat} (hs : ∀ x, x ∈ s → x < 256) (hc : c.length + 4 + s.length ≤ 10000000) : CW MN 32 [v, .str s] G fun w G' => WB H1 lo G' (c ++ textB s) w ∧ BS v w G G' :=
  (c_itext h.1 h.2.2.1 hs hc).mono fun w G' ⟨bg, bs⟩ => ⟨h.of bg bs, bs⟩
theorem w_vals (h : WB H1 lo G c v) {l : List Pr2} {vl : AV} (hl : SlE PrE 2 H1 l [vl]) (hc : c.length + 4 + 8 * l.length ≤ 10000000) : CW MN 33 [v, vl] G fun w G' => WB H1 lo G' (c ++ rowB prB l) w ∧ BS v w G G' :=
  (c_ivals h.1 h.2.2.1 h.2.1 h.2.2.2 hl hc).mono fun w G' ⟨bg, bs⟩ => ⟨h.of bg bs, bs⟩
theorem mark_row (H1 H2 : AHeap) (s : Sm H1 H2) : WB H1 H1.next (H2.newRow [.int .u8 84, .int .u8 87, .int .u8 49, .int .u8 0]) markB (.slice (some (H2.next, 0)) 1 4 true) := by
  have s2 := Chg.newRow H2 [.int .u8 84, .int .u8 87, .int .u8 49, .int .u8 0]
  refine ⟨⟨.inr ⟨H2.next, 0, true, rfl, s.1, rfl, Rd.newRow H2 _, fun h => by cases h⟩, by simp [markB]⟩, s.trans s2, Nat.le_trans s.1 s2.1, Nat.le_refl _⟩
theorem mark_conv (H2 : AHeap) (l : List AV) (h : l.length = 4) : convA .bytes (.slice (some (H2.next, 0)) 1 4 true) (H2.newRow l) = some (.slice (some (H2.next, 0)) 1 4 true, H2.newRow l) := by
  have e : (H2.newRow l).get H2.next = .cells (ofL l 0 .nil) l.length true [] := by rw [AHeap.newRow, get_new, if_pos rfl]
  unfold convA
  simp only [e]
  rfl
theorem take_len {α : Type} {f : α → List Nat} {k m : Nat} {l : List α} (hl : l.length ≤ m) (h : ∀ x, x ∈ l → (f x).length ≤ k) (j : Nat) : ((l.take j).flatMap f).length ≤ m * k := by
  have h1 := flm_len (f := f) (k := k) (l := l.take j) fun x hx => h x (List.mem_of_mem_take hx)
  have h2 : (l.take j).length * k ≤ m * k := Nat.mul_le_mul_right k (by simp; omega)
  omega
theorem okCl.len {c : UClass} (h : okCl c) : (clB c).length ≤ 200 := by
  obtain ⟨a1, a2, a3, a4⟩ := h
  have := ps_len a4
  simp only [clB, textB, List.length_append, b4_len]; omega
theorem okMe.len {c : UMethod} (h : okMe c) : (meB c).length ≤ 300 := by
  obtain ⟨a1, a2, a3, a4⟩ := h
  have := ps_len a3
  simp only [meB, textB, List.length_append, b4_len]; omega
theorem okOb.len {c : UObj} (h : okOb c) : (obB c).length ≤ 520 := by
  obtain ⟨a1, a2⟩ := h
  have := ps_len a2
  simp only [obB, List.length_append, b4_len]; omega
theorem okSt.len {s : List Nat} (h : s.length ≤ 16) : (textB s).length ≤ 20 := by
  rw [textB, List.length_append, b4_len]; omega
end
theorem rd4v {H : AHeap} {b : Nat} {a0 a1 a2 a3 : AV} (r : Rd H b 0 [a0, a1, a2, a3]) : loadA H b 0 1 = some [a0] ∧ loadA H b 1 1 = some [a1] ∧ loadA H b 2 1 = some [a2] ∧ loadA H b 3 1 = some [a3] := by
  have r0 := r.one (j := 0) rfl
  have r1 := r.one (j := 1) rfl
  have r2 := r.one (j := 2) rfl
  have r3 := r.one (j := 3) rfl
  rw [Nat.zero_add] at r0 r1 r2 r3
  exact ⟨r0, r1, r2, r3⟩
theorem rd2v {H : AHeap} {b : Nat} {a0 a1 : AV} (r : Rd H b 0 [a0, a1]) : loadA H b 0 1 = some [a0] ∧ loadA H b 1 1 = some [a1] := by
  have r0 := r.one (j := 0) rfl
  have r1 := r.one (j := 1) rfl
  rw [Nat.zero_add] at r0 r1
  exact ⟨r0, r1⟩
theorem Rd.bs {G G' : AHeap} {v w : AV} {x i : Nat} {cs : List AV} (r : Rd G x i cs) (b : BS v w G G') (hne : ub v ≠ some x) : Rd G' x i cs := r.keep b.n (b.k x r.1 hne)
theorem BS.ne {G G' : AHeap} {v w : AV} (b : BS v w G G') {x : Nat} (hx : x < G.next) (hne : ub v ≠ some x) : ub w ≠ some x := fun e => hne (b.u x hx e)
theorem c_clipU {α : Type} {E : Rep α} {s : Nat} {H : AHeap} {xs : List α} {v : AV} {f : Nat} (hf : MN.fs f = some (gClip s)) (h : SlE E s H xs [v]) : CW MN f [v] H fun u H' => H' = H ∧ SlE E s H xs [u] ∧ ub u = none := by
  refine CW_of hf ?_
  obtain ⟨a, s0, cl, rfl, hs0⟩ := h.shape
  unfold gClip
  have b1 : ∀ d, boundA (some (.int .i64 (xs.length : Int))) 0 xs.length d = some xs.length := fun d => bnd (Nat.le_refl _)
  have b2 : boundA none 0 xs.length 0 = some 0 := rfl
  cases a with
  | none =>
    have e1 : slA 0 0 s xs.length cl none (some (.int .i64 (xs.length : Int))) (some (.int .i64 (xs.length : Int))) = some (.slice (some (0, 0)) s xs.length true) := by
      simp only [slA, b1, b2, Option.isSome_some, Option.isNone_some, Bool.and_false, cond_false, cond_true, Nat.zero_mul, Nat.add_zero, Nat.sub_zero, Nat.beq_refl]
    simp -implicitDefEqProofs only [e1, go_sem]
    obtain ⟨hx, -⟩ := h.cut0
    subst hx
    exact ⟨⟨none, s, true, rfl, .inl rfl, Nat.zero_le _, fun h => absurd rfl h⟩, rfl⟩
  | some p =>
    obtain ⟨x, o⟩ := p
    obtain rfl : s0 = s := by rcases hs0 with e | e; cases e; exact e
    have e1 : slA x o s0 xs.length cl none (some (.int .i64 (xs.length : Int))) (some (.int .i64 (xs.length : Int))) = some (.slice (some (x, o)) s0 xs.length true) := by
      simp only [slA, b1, b2, Option.isSome_some, Option.isNone_some, Bool.and_false, cond_false, cond_true, Nat.zero_mul, Nat.add_zero, Nat.sub_zero, Nat.beq_refl]
    simp -implicitDefEqProofs only [e1, Nat.beq_refl, go_sem]
    obtain ⟨a', s0', cl', e, k0, k1, k⟩ := h
    cases e
    exact ⟨⟨_, _, _, rfl, .inr rfl, k1, k⟩, rfl⟩
def BytR (u : UUnit) (w : AV) (H' : AHeap) : Prop := (unitP u ≠ 0 ∧ w = .tuple [.slice none 1 0 true, .int .i64 (unitP u)]) ∨ (unitP u = 0 ∧ ∃ b, w = .tuple [b, .int .i64 0] ∧ SlE ByE 1 H' (bytesP u) [b] ∧ ub b = none)
theorem c_iBytes {H : AHeap} {u : UUnit} {cu : List AV} (hu : UnE H u cu) : CW MN 17 [.agg cu] H fun w H' => Sm H H' ∧ BytR u w H' := by
  refine CW_of (fn := af17) rfl ?_
  dsimp only [af17, qm, q, qG, qn, qi, qb, qB, qk, qc, qo, qg, qv, qr]
  obtain ⟨v1, v2, v3, v4, bu, rfl⟩ := BoxU.of hu
  have s1 := Chg.newRow H [v1, v2, v3, v4, .int .i64 u.main]
  obtain ⟨b, hb⟩ : ∃ b, b = H.next := ⟨_, rfl⟩
  rw [← hb] at bu
  generalize eH1 : H.newRow [v1, v2, v3, v4, .int .i64 u.main] = H1 at *
  have la := bu.all
  simp -implicitDefEqProofs only [eH1, ← hb, la, go_sem]
  refine CW.mono (c_unitRight bu.un) ?_
  rintro w H2 ⟨rfl, s2⟩
  by_cases hz : unitP u = 0
  rotate_left
  · have hz' : (unitP u != 0) = true := by simp [hz]
    simp -implicitDefEqProofs only [hz', go_sem]
    exact ⟨s1.trans s2, .inl ⟨hz, rfl⟩⟩
  have fit := fitU_of hz
  obtain ⟨fn, fc, fm, fo, -⟩ := fit
  rw [hz]
  have wb := mark_row H1 H2 s2
  have cv := mark_conv H2 [.int .u8 84, .int .u8 87, .int .u8 49, .int .u8 0] rfl
  generalize eH3 : H2.newRow [.int .u8 84, .int .u8 87, .int .u8 49, .int .u8 0] = H3 at *
  obtain ⟨lo, hlo⟩ : ∃ lo, lo = H1.next := ⟨_, rfl⟩
  rw [← hlo] at wb
  obtain ⟨a1, z1, c1, rfl, -⟩ := bu.names.shape
  obtain ⟨a2, z2, c2, rfl, -⟩ := bu.classes.shape
  obtain ⟨a3, z3, c3, rfl, -⟩ := bu.methods.shape
  obtain ⟨a4, z4, c4, rfl, -⟩ := bu.objects.shape
  have l0 := (wb.2.1.ld bu.lt).trans bu.l0
  simp -implicitDefEqProofs only [eH3, cv, bne_self_eq_false, Bool.false_eq_true, l0, go_sem]
  refine CW.mono (w_num1 wb (u.names.length : Int) (by simp [markB])) ?_
  rintro w H4 wb4
  have l04 := (wb4.2.1.ld bu.lt).trans bu.l0
  simp -implicitDefEqProofs only [l04, go_sem]
  refine WP_mono (Q := fun ex fr G => ex = .exit 0 ∧ fr.get 1 = some (.ptr (some (b, 0))) ∧ ∃ w, fr.get 5 = some w ∧ WB H1 lo G (markB ++ rowB textB u.names) w) ?_ (WP_loop (fun m fr G => ∃ (j : Nat) (w : AV), m = u.names.length - j ∧ j ≤ u.names.length ∧ fr.get 1 = some (.ptr (some (b, 0))) ∧ fr.get 5 = some w ∧ fr.get 29 = some (.slice a1 z1 u.names.length c1) ∧ fr.get 30 = some (.int .i64 u.names.length) ∧ fr.get 31 = some (.int .i64 j) ∧ WB H1 lo G (markB ++ b4 u.names.length ++ (u.names.take j).flatMap textB) w) u.names.length ?_ ?_)
  rotate_left
  · refine ⟨0, w, rfl, by omega, ?_⟩
    simp -implicitDefEqProofs only [go_sem]
    rw [List.flatMap_nil, List.append_nil]
    exact wb4
  · rintro m fr G ⟨j, w, hm, hj, g1, g5, g29, g30, g31, wb⟩
    have j0 : (0 : Int) ≤ j := by omega
    by_cases hlt : j < u.names.length
    · have hlt' : (j : Int) < (u.names.length : Int) := by omega
      have hw := wrapS hlt (by omega)
      obtain ⟨x, o, rfl, rfl, ld, hok, -⟩ := StE.at (MonoE.enc.sl _ _ _ _ bu.names wb.2.1) hlt
      have ef := flat_take (f := textB) hlt
      have hfl := take_len (f := textB) fn.1 (fun s hs => okSt.len (fn.2 s hs)) j
      have h16 := fn.2 _ (List.getElem_mem hlt)
      generalize u.names[j] = s at *
      simp -implicitDefEqProofs only [g1, g5, g29, g30, g31, hlt', j0, ld, go_sem]
      refine CW.mono (w_text wb hok.1 (by simp only [List.length_append, b4_len, markB, List.length_cons, List.length_nil]; omega)) ?_
      rintro w2 G2 ⟨wb2, -⟩
      simp -implicitDefEqProofs only [g1, g5, g29, g30, g31, hw, go_sem]
      refine ⟨u.names.length - (j + 1), by omega, j + 1, w2, rfl, by omega, rfl, rfl, ?_⟩
      rw [ef, ← List.append_assoc]
      exact wb2
    · obtain rfl : j = u.names.length := by omega
      simp -implicitDefEqProofs only [g1, g5, g29, g30, g31, Int.lt_irrefl, Bool.false_eq_true, go_sem]
      rw [List.take_length, List.append_assoc] at wb
      exact ⟨w, rfl, wb⟩
  rintro ex fr G ⟨rfl, g1, w, g5, wb⟩
  obtain ⟨C1, hC1⟩ : ∃ C1, C1 = markB ++ rowB textB u.names := ⟨_, rfl⟩
  have hl1 : C1.length ≤ 1000 := by
    have := rowB_len (f := textB) (k := 20) fn.1 (fun s hs => okSt.len (fn.2 s hs))
    rw [hC1, List.length_append, markB]
    simp only [List.length_cons, List.length_nil]; omega
  rw [← hC1] at wb
  have l1 := (wb.2.1.ld bu.lt).trans bu.l1
  simp -implicitDefEqProofs only [g1, g5, l1, go_sem]
  refine CW.mono (w_num1 wb (u.classes.length : Int) (by omega)) ?_
  rintro w H5 wb5
  have l15 := (wb5.2.1.ld bu.lt).trans bu.l1
  simp -implicitDefEqProofs only [g1, l15, go_sem]
  clear wb wb4 l1 l15 l04 g5
  refine WP_mono (Q := fun ex fr G => ex = .exit 2 ∧ fr.get 1 = some (.ptr (some (b, 0))) ∧ ∃ w, fr.get 5 = some w ∧ WB H1 lo G (C1 ++ rowB clB u.classes) w) ?_ (WP_loop (fun m fr G => ∃ (j : Nat) (w : AV), m = u.classes.length - j ∧ j ≤ u.classes.length ∧ fr.get 1 = some (.ptr (some (b, 0))) ∧ fr.get 5 = some w ∧ fr.get 46 = some (.slice a2 z2 u.classes.length c2) ∧ fr.get 47 = some (.int .i64 u.classes.length) ∧ fr.get 48 = some (.int .i64 j) ∧ WB H1 lo G (C1 ++ b4 u.classes.length ++ (u.classes.take j).flatMap clB) w) u.classes.length ?_ ?_)
  rotate_left
  · refine ⟨0, w, rfl, by omega, ?_⟩
    simp -implicitDefEqProofs only [g1, go_sem]
    rw [List.flatMap_nil, List.append_nil]
    exact wb5
  · clear wb5 g1
    rintro m fr G ⟨j, w, hm, hj, g1, g5, g46, g47, g48, wb⟩
    have j0 : (0 : Int) ≤ j := by omega
    by_cases hlt : j < u.classes.length
    · have hlt' : (j : Int) < (u.classes.length : Int) := by omega
      have hw := wrapS hlt (by omega)
      obtain ⟨x, o, cs, rfl, rfl, ld0, hl2, hcl, hrd⟩ := bu.classes.at hlt
      have ld := (wb.2.1.ld hrd.1).trans ld0
      obtain ⟨vb, rfl, hst, -, -, hbi⟩ := hcl
      have ef := flat_take (f := clB) hlt
      have hfl := take_len (f := clB) fc.1 (fun s hs => (fc.2 s hs).len) j
      have hok := fc.2 _ (List.getElem_mem hlt)
      generalize u.classes[j] = c at *
      obtain ⟨ab, zb, cb, rfl, -⟩ := hbi.shape
      obtain ⟨G1, st, n1, sm1, r1⟩ := store_new G [.str [], .int .i64 0, .int .i64 0, .slice none 1 0 true] [.str c.name, iv c.super, iv c.fields, .slice ab zb c.binds.length cb] rfl
      unfold iv at *
      have wb1 := wb.sm sm1
      have r2 := Rd.newRow G1 [.int .i64 c.super, .int .i64 c.fields, .int .i64 (c.binds.length : Int)]
      have s2 := Chg.newRow G1 [.int .i64 c.super, .int .i64 c.fields, .int .i64 (c.binds.length : Int)]
      have n2 : (G1.newRow [.int .i64 c.super, .int .i64 c.fields, .int .i64 (c.binds.length : Int)]).next = G1.next + 1 := rfl
      generalize eG2 : G1.newRow [.int .i64 c.super, .int .i64 c.fields, .int .i64 (c.binds.length : Int)] = G2 at *
      have wb2 := wb1.sm s2
      have r12 := r1.keep s2.1 (s2.gt r1.1)
      obtain ⟨p0, p1, p2, p3⟩ := rd4v r1
      obtain ⟨q0, q1, q2, q3⟩ := rd4v r12
      have hcn := hok.1
      have hbn := hok.2.2.2.1
      have neB : ub w ≠ some G.next := fun e => by have := wb.1.lt e; omega
      have neR : ub w ≠ some G1.next := fun e => by have := wb1.1.lt e; omega
      simp -implicitDefEqProofs only [g1, g5, g46, g47, g48, hlt', j0, ld, st, p0, p1, p2, p3, q0, q1, q2, q3, eG2, go_sem]
      refine CW.mono (w_text wb2 hst.1 (by simp only [List.length_append, b4_len]; omega)) ?_
      rintro w3 G3 ⟨wb3, bs3⟩
      have r13 := r12.bs bs3 neB
      have r23 := r2.bs bs3 neR
      obtain ⟨t0, t1, t2, t3⟩ := rd4v r13
      have neR3 := bs3.ne r2.1 neR
      have neB3 := bs3.ne r12.1 neB
      simp -implicitDefEqProofs only [g1, g5, g46, g47, g48, p0, p1, p2, p3, q0, q1, q2, q3, t0, t1, t2, t3, eG2, go_sem]
      refine CW.mono (c_inum (l := [c.super, c.fields, (c.binds.length : Int)]) wb3.1 wb3.2.2.1 r23 neR3 (by simp only [List.length_append, b4_len, textB, List.length_cons, List.length_nil]; omega)) ?_
      rintro w4 G4 ⟨bg4, bs4⟩
      have wb4 := wb3.of bg4 bs4
      have e3 : [c.super, c.fields, (c.binds.length : Int)].flatMap b4 = b4 c.super ++ (b4 c.fields ++ b4 c.binds.length) := by simp
      rw [e3] at wb4
      have r14 := r13.bs bs4 neB3
      obtain ⟨-, -, -, y3⟩ := rd4v r14
      obtain ⟨C2, hC2⟩ : ∃ C2, C2 = C1 ++ b4 u.classes.length ++ (u.classes.take j).flatMap clB ++ textB c.name ++ (b4 c.super ++ (b4 c.fields ++ b4 c.binds.length)) := ⟨_, rfl⟩
      have hl2' : C2.length ≤ 5000 := by
        rw [hC2]
        simp only [List.length_append, b4_len, textB]; omega
      rw [← hC2] at wb4
      simp -implicitDefEqProofs only [g1, g5, g46, g47, g48, p0, p1, p2, p3, q0, q1, q2, q3, t0, t1, t2, t3, y3, go_sem]
      refine WP_mono (Q := fun ex fr G => ex = .exit 4 ∧ fr.get 1 = some (.ptr (some (b, 0))) ∧ fr.get 46 = some (.slice (some (x, o)) 4 u.classes.length c2) ∧ fr.get 47 = some (.int .i64 u.classes.length) ∧ fr.get 48 = some (.int .i64 j) ∧ ∃ w, fr.get 5 = some w ∧ WB H1 lo G (C2 ++ c.binds.flatMap prB) w) ?_ (WP_loop (fun m fr G => ∃ (i : Nat) (w : AV), m = c.binds.length - i ∧ i ≤ c.binds.length ∧ fr.get 1 = some (.ptr (some (b, 0))) ∧ fr.get 5 = some w ∧ fr.get 46 = some (.slice (some (x, o)) 4 u.classes.length c2) ∧ fr.get 47 = some (.int .i64 u.classes.length) ∧ fr.get 48 = some (.int .i64 j) ∧ fr.get 66 = some (.slice ab zb c.binds.length cb) ∧ fr.get 67 = some (.int .i64 c.binds.length) ∧ fr.get 68 = some (.int .i64 i) ∧ WB H1 lo G (C2 ++ (c.binds.take i).flatMap prB) w) c.binds.length ?_ ?_)
      · rintro ex fr G ⟨rfl, g1, g46, g47, g48, w, g5, wb⟩
        simp -implicitDefEqProofs only [g1, g5, g46, g47, g48, hw, go_sem]
        refine ⟨u.classes.length - (j + 1), by omega, j + 1, w, rfl, by omega, rfl, rfl, ?_⟩
        rw [ef, ← List.append_assoc]
        have e : C2 ++ c.binds.flatMap prB = C1 ++ b4 u.classes.length ++ (u.classes.take j).flatMap clB ++ clB c := by
          rw [hC2]; simp only [clB, rowB, List.append_assoc]
        rwa [e] at wb
      · refine ⟨0, w4, rfl, by omega, ?_⟩
        simp -implicitDefEqProofs only [g1, g5, g46, g47, g48, go_sem]
        rw [List.flatMap_nil, List.append_nil]
        exact wb4
      · rintro m' fr G ⟨i, w, hm', hi, g1, g5, g46, g47, g48, g66, g67, g68, wb⟩
        have i0 : (0 : Int) ≤ i := by omega
        by_cases hli : i < c.binds.length
        · have hli' : (i : Int) < (c.binds.length : Int) := by omega
          have hwi := wrapS hli (by omega)
          obtain ⟨x', o', cs', rfl, rfl, ld', -, ⟨rfl, -⟩, -⟩ := (MonoE.enc.sl _ _ _ _ hbi wb.2.1).at hli
          have ef' := flat_take (f := prB) hli
          have hfl' : ((c.binds.take i).flatMap prB).length = 8 * i := by rw [prB_len, List.length_take]; omega
          generalize c.binds[i] = pr at *
          obtain ⟨K1, st', n1', smK, rK⟩ := store_new G [.int .i64 0, .int .i64 0] (prC pr) rfl
          unfold prC iv at *
          obtain ⟨k0, k1⟩ := rd2v rK
          have wbK := wb.sm smK
          simp -implicitDefEqProofs only [g1, g5, g46, g47, g48, g66, g67, g68, hli', i0, ld', st', k0, k1, go_sem]
          refine CW.mono (w_num wbK [pr.1, pr.2] (by simp only [List.length_append, hfl', List.length_cons, List.length_nil]; omega)) ?_
          rintro w5 K2 ⟨wb5, -⟩
          simp -implicitDefEqProofs only [g1, g5, g46, g47, g48, g66, g67, g68, hwi, go_sem]
          refine ⟨c.binds.length - (i + 1), by omega, i + 1, w5, rfl, by omega, rfl, rfl, ?_⟩
          rw [ef', ← List.append_assoc]
          have e2 : [pr.1, pr.2].flatMap b4 = prB pr := by simp
          rwa [e2] at wb5
        · obtain rfl : i = c.binds.length := by omega
          simp -implicitDefEqProofs only [g1, g5, g46, g47, g48, g66, g67, g68, Int.lt_irrefl, Bool.false_eq_true, go_sem]
          rw [List.take_length] at wb
          exact ⟨w, rfl, wb⟩
    · obtain rfl : j = u.classes.length := by omega
      simp -implicitDefEqProofs only [g1, g5, g46, g47, g48, Int.lt_irrefl, Bool.false_eq_true, go_sem]
      rw [List.take_length, List.append_assoc] at wb
      exact ⟨w, rfl, wb⟩
  rintro ex fr G ⟨rfl, g1, w, g5, wb⟩
  obtain ⟨C2, hC2⟩ : ∃ C2, C2 = C1 ++ rowB clB u.classes := ⟨_, rfl⟩
  have hl2 : C2.length ≤ 4000 := by
    have := rowB_len (f := clB) (k := 200) fc.1 (fun s hs => (fc.2 s hs).len)
    rw [hC2, List.length_append]; omega
  rw [← hC2] at wb
  have l2 := (wb.2.1.ld bu.lt).trans bu.l2
  simp -implicitDefEqProofs only [g1, g5, l2, go_sem]
  refine CW.mono (w_num1 wb (u.methods.length : Int) (by omega)) ?_
  rintro w H6 wb6
  have l26 := (wb6.2.1.ld bu.lt).trans bu.l2
  simp -implicitDefEqProofs only [g1, l26, go_sem]
  clear wb l2 l26 g5
  refine WP_mono (Q := fun ex fr G => ex = .exit 6 ∧ fr.get 1 = some (.ptr (some (b, 0))) ∧ ∃ w, fr.get 5 = some w ∧ WB H1 lo G (C2 ++ rowB meB u.methods) w) ?_ (WP_loop (fun m fr G => ∃ (j : Nat) (w : AV), m = u.methods.length - j ∧ j ≤ u.methods.length ∧ fr.get 1 = some (.ptr (some (b, 0))) ∧ fr.get 5 = some w ∧ fr.get 88 = some (.slice a3 z3 u.methods.length c3) ∧ fr.get 89 = some (.int .i64 u.methods.length) ∧ fr.get 90 = some (.int .i64 j) ∧ WB H1 lo G (C2 ++ b4 u.methods.length ++ (u.methods.take j).flatMap meB) w) u.methods.length ?_ ?_)
  rotate_left
  · refine ⟨0, w, rfl, by omega, ?_⟩
    simp -implicitDefEqProofs only [g1, go_sem]
    rw [List.flatMap_nil, List.append_nil]
    exact wb6
  · clear wb6 g1
    rintro m fr G ⟨j, w, hm, hj, g1, g5, g46, g47, g48, wb⟩
    have j0 : (0 : Int) ≤ j := by omega
    by_cases hlt : j < u.methods.length
    · have hlt' : (j : Int) < (u.methods.length : Int) := by omega
      have hw := wrapS hlt (by omega)
      obtain ⟨x, o, cs, rfl, rfl, ld0, hl2, hcl, hrd⟩ := bu.methods.at hlt
      have ld := (wb.2.1.ld hrd.1).trans ld0
      obtain ⟨vl, vc, rfl, -, -, hli, hco⟩ := hcl
      have ef := flat_take (f := meB) hlt
      have hfl := take_len (f := meB) fm.1 (fun s hs => (fm.2 s hs).len) j
      have hok := fm.2 _ (List.getElem_mem hlt)
      generalize u.methods[j] = c at *
      have hby : ∀ x, x ∈ c.code → x < 256 := fun x hx => by
        obtain ⟨q, hq, rfl⟩ := List.getElem_of_mem hx
        obtain ⟨ac, zc, cc, rfl, -⟩ := hco.shape
        obtain ⟨-, -, -, -, -, -, -, ⟨-, h256⟩, -⟩ := hco.at hq
        exact h256
      obtain ⟨al, zl, cll, rfl, -⟩ := hli.shape
      obtain ⟨ac, zc, ccc, rfl, -⟩ := hco.shape
      obtain ⟨G1, st, n1, sm1, r1⟩ := store_new G [.int .i64 0, .int .i64 0, .slice none 1 0 true, .slice none 1 0 true] [iv c.args, iv c.temps, .slice al zl c.lits.length cll, .slice ac zc c.code.length ccc] rfl
      unfold iv at *
      have wb1 := wb.sm sm1
      obtain ⟨p0, p1, p2, p3⟩ := rd4v r1
      have hln := hok.2.2.1.1
      have hcn := hok.2.2.2
      have neB : ub w ≠ some G.next := fun e => by have := wb.1.lt e; omega
      simp -implicitDefEqProofs only [g1, g5, g46, g47, g48, hlt', j0, ld, st, p0, p1, p2, p3, go_sem]
      refine CW.mono (w_num wb1 [c.args, c.temps] (by simp only [List.length_append, b4_len, List.length_cons, List.length_nil]; omega)) ?_
      rintro w3 G3 ⟨wb3, bs3⟩
      have r13 := r1.bs bs3 neB
      obtain ⟨t0, t1, t2, t3⟩ := rd4v r13
      have neB3 := bs3.ne r1.1 neB
      simp -implicitDefEqProofs only [g1, g5, g46, g47, g48, p0, p1, p2, p3, t0, t1, t2, t3, go_sem]
      refine CW.mono (w_vals wb3 hli (by simp only [List.length_append, b4_len, List.length_cons, List.length_nil, flat4]; omega)) ?_
      rintro w4 G4 ⟨wb4, bs4⟩
      have r14 := r13.bs bs4 neB3
      obtain ⟨y0, y1, y2, y3⟩ := rd4v r14
      have d1 := ByE.str (MonoE.enc.sl _ _ _ _ hco wb1.2.1)
      have d3 := ByE.str (MonoE.enc.sl _ _ _ _ hco wb3.2.1)
      have d4 := ByE.str (MonoE.enc.sl _ _ _ _ hco wb4.2.1)
      have d2 := ByE.str (MonoE.enc.sl _ _ _ _ hco (wb1.sm (Chg.newRow G1 [.int .i64 c.args, .int .i64 c.temps])).2.1)
      have r12 := r1.keep (Chg.newRow G1 [.int .i64 c.args, .int .i64 c.temps]).1 ((Chg.newRow G1 [.int .i64 c.args, .int .i64 c.temps]).gt r1.1)
      obtain ⟨q0, q1, q2, q3⟩ := rd4v r12
      simp -implicitDefEqProofs only [g1, g5, g46, g47, g48, p0, p1, p2, p3, q0, q1, q2, q3, t0, t1, t2, t3, y0, y1, y2, y3, d1, d2, d3, d4, go_sem]
      refine CW.mono (w_text wb4 hby (by have := ps_len hok.2.2.1; simp only [List.length_append, b4_len, List.length_cons, List.length_nil, flat4]; omega)) ?_
      rintro w5 G5 ⟨wb5, bs5⟩
      simp -implicitDefEqProofs only [g1, g5, g46, g47, g48, p0, p1, p2, p3, q0, q1, q2, q3, t0, t1, t2, t3, y0, y1, y2, y3, d1, d2, d3, d4, hw, go_sem]
      refine ⟨u.methods.length - (j + 1), by omega, j + 1, w5, rfl, by omega, rfl, rfl, ?_⟩
      rw [ef, ← List.append_assoc]
      have e : C2 ++ b4 u.methods.length ++ (u.methods.take j).flatMap meB ++ [c.args, c.temps].flatMap b4 ++ rowB prB c.lits ++ textB c.code = C2 ++ b4 u.methods.length ++ (u.methods.take j).flatMap meB ++ meB c := by
        simp only [meB, List.flatMap_cons, List.flatMap_nil, List.append_nil, List.append_assoc]
      rwa [e] at wb5
    · obtain rfl : j = u.methods.length := by omega
      simp -implicitDefEqProofs only [g1, g5, g46, g47, g48, Int.lt_irrefl, Bool.false_eq_true, go_sem]
      rw [List.take_length, List.append_assoc] at wb
      exact ⟨w, rfl, wb⟩
  rintro ex fr G ⟨rfl, g1, w, g5, wb⟩
  obtain ⟨C3, hC3⟩ : ∃ C3, C3 = C2 ++ rowB meB u.methods := ⟨_, rfl⟩
  have hl3 : C3.length ≤ 14000 := by
    have := rowB_len (f := meB) (k := 300) fm.1 (fun s hs => (fm.2 s hs).len)
    rw [hC3, List.length_append]; omega
  rw [← hC3] at wb
  have l3 := (wb.2.1.ld bu.lt).trans bu.l3
  simp -implicitDefEqProofs only [g1, g5, l3, go_sem]
  refine CW.mono (w_num1 wb (u.objects.length : Int) (by omega)) ?_
  rintro w H7 wb7
  have l37 := (wb7.2.1.ld bu.lt).trans bu.l3
  simp -implicitDefEqProofs only [g1, l37, go_sem]
  clear wb l3 l37 g5
  refine WP_mono (Q := fun ex fr G => ex = .exit 8 ∧ fr.get 1 = some (.ptr (some (b, 0))) ∧ ∃ w, fr.get 5 = some w ∧ WB H1 lo G (C3 ++ rowB obB u.objects) w) ?_ (WP_loop (fun m fr G => ∃ (j : Nat) (w : AV), m = u.objects.length - j ∧ j ≤ u.objects.length ∧ fr.get 1 = some (.ptr (some (b, 0))) ∧ fr.get 5 = some w ∧ fr.get 116 = some (.slice a4 z4 u.objects.length c4) ∧ fr.get 117 = some (.int .i64 u.objects.length) ∧ fr.get 118 = some (.int .i64 j) ∧ WB H1 lo G (C3 ++ b4 u.objects.length ++ (u.objects.take j).flatMap obB) w) u.objects.length ?_ ?_)
  rotate_left
  · refine ⟨0, w, rfl, by omega, ?_⟩
    simp -implicitDefEqProofs only [g1, go_sem]
    rw [List.flatMap_nil, List.append_nil]
    exact wb7
  · clear wb7 g1
    rintro m fr G ⟨j, w, hm, hj, g1, g5, g46, g47, g48, wb⟩
    have j0 : (0 : Int) ≤ j := by omega
    by_cases hlt : j < u.objects.length
    · have hlt' : (j : Int) < (u.objects.length : Int) := by omega
      have hw := wrapS hlt (by omega)
      obtain ⟨x, o, cs, rfl, rfl, ld0, hl2, hcl, hrd⟩ := bu.objects.at hlt
      have ld := (wb.2.1.ld hrd.1).trans ld0
      obtain ⟨vl, rfl, -, hli⟩ := hcl
      have ef := flat_take (f := obB) hlt
      have hfl := take_len (f := obB) fo.1 (fun s hs => (fo.2 s hs).len) j
      have hok := fo.2 _ (List.getElem_mem hlt)
      generalize u.objects[j] = c at *
      obtain ⟨al, zl, cll, rfl, -⟩ := hli.shape
      obtain ⟨G1, st, n1, sm1, r1⟩ := store_new G [.int .i64 0, .slice none 1 0 true] [iv c.cls, .slice al zl c.fields.length cll] rfl
      unfold iv at *
      have wb1 := wb.sm sm1
      obtain ⟨p0, p1⟩ := rd2v r1
      have hln := hok.2.1
      have neB : ub w ≠ some G.next := fun e => by have := wb.1.lt e; omega
      have r12 := r1.keep (Chg.newRow G1 [.int .i64 c.cls]).1 ((Chg.newRow G1 [.int .i64 c.cls]).gt r1.1)
      obtain ⟨q0, q1⟩ := rd2v r12
      simp -implicitDefEqProofs only [g1, g5, g46, g47, g48, hlt', j0, ld, st, p0, p1, go_sem]
      refine CW.mono (w_num wb1 [c.cls] (by simp only [List.length_append, b4_len, List.length_cons, List.length_nil]; omega)) ?_
      rintro w3 G3 ⟨wb3, bs3⟩
      have r13 := r1.bs bs3 neB
      obtain ⟨t0, t1⟩ := rd2v r13
      simp -implicitDefEqProofs only [g1, g5, g46, g47, g48, p0, p1, q0, q1, t0, t1, go_sem]
      refine CW.mono (w_vals wb3 hli (by simp only [List.length_append, b4_len, List.length_cons, List.length_nil, flat4]; omega)) ?_
      rintro w4 G4 ⟨wb4, bs4⟩
      simp -implicitDefEqProofs only [g1, g5, g46, g47, g48, p0, p1, q0, q1, t0, t1, hw, go_sem]
      refine ⟨u.objects.length - (j + 1), by omega, j + 1, w4, rfl, by omega, rfl, rfl, ?_⟩
      rw [ef, ← List.append_assoc]
      have e : C3 ++ b4 u.objects.length ++ (u.objects.take j).flatMap obB ++ [c.cls].flatMap b4 ++ rowB prB c.fields = C3 ++ b4 u.objects.length ++ (u.objects.take j).flatMap obB ++ obB c := by
        simp only [obB, List.flatMap_cons, List.flatMap_nil, List.append_nil, List.append_assoc]
      rwa [e] at wb4
    · obtain rfl : j = u.objects.length := by omega
      simp -implicitDefEqProofs only [g1, g5, g46, g47, g48, Int.lt_irrefl, Bool.false_eq_true, go_sem]
      rw [List.take_length, List.append_assoc] at wb
      exact ⟨w, rfl, wb⟩
  rintro ex fr G ⟨rfl, g1, w, g5, wb⟩
  have hl4 : (C3 ++ rowB obB u.objects).length ≤ 40000 := by
    have := rowB_len (f := obB) (k := 520) fo.1 (fun s hs => (fo.2 s hs).len)
    rw [List.length_append]; omega
  have l4 := (wb.2.1.ld bu.lt).trans bu.l4
  simp -implicitDefEqProofs only [g1, g5, l4, go_sem]
  refine CW.mono (w_num1 wb u.main (by omega)) ?_
  rintro w H8 wb8
  have e : C3 ++ rowB obB u.objects ++ b4 u.main = bytesP u := by
    rw [hC3, hC2, hC1]
    simp only [bytesP, unB, List.append_assoc]
  rw [e] at wb8
  have sl := wb8.1.slE (by have := (fitU_of hz).len; unfold maxLen; omega)
  simp -implicitDefEqProofs only [go_sem]
  refine CW.mono (c_clipU rfl sl) ?_
  rintro w9 H9 ⟨rfl, sl9, hu9⟩
  simp -implicitDefEqProofs only [go_sem]
  exact ⟨s1.trans wb8.2.1, .inr ⟨hz, w9, rfl, sl9, hu9⟩⟩
set_option maxHeartbeats 8000000
end Go.Proofs.YtojeldemfccilaaGreatDoor.AA
