/- Units in a heap; their bytes; rows; chains; shape. -/
import Derived.Test.YtojeldemfccilaaGreatDoorKImgN
set_option linter.unusedSimpArgs false
set_option linter.unusedVariables false
namespace Go.Proofs.YtojeldemfccilaaGreatDoor.AA
open Go Go.RowKit
set_option maxRecDepth 100000
section
variable {α : Type} {E : Rep α} {s : Nat} {H : AHeap} {xs : List α}
theorem SlE.shape {v : AV} (h : SlE E s H xs [v]) : ∃ a s0 cl, v = .slice a s0 xs.length cl ∧ (a = none ∨ s0 = s) := by
  obtain ⟨a, s0, cl, e, k, -, -⟩ := h
  exact ⟨a, s0, cl, (List.cons.inj e).1, k⟩
theorem SlE.at {a : Option (Nat × Nat)} {s0 n : Nat} {cl : Bool} (h : SlE E s H xs [.slice a s0 n cl]) {i : Nat} (hi : i < xs.length) : ∃ x o l, a = some (x, o) ∧ s0 = s ∧ loadA H x (o + i * s) s = some l ∧ l.length = s ∧ E H xs[i] l ∧ Rd H x (o + i * s) l := by
  obtain ⟨a', s0', cl', e, k0, -, k⟩ := h
  cases e
  obtain ⟨x, o, cs, rfl, hr, hl, hj⟩ := k (by omega)
  have hle : (i + 1) * s ≤ xs.length * s := Nat.mul_le_mul_right s (by omega)
  rw [Nat.add_mul, Nat.one_mul] at hle
  have hlen : ((cs.drop (i * s)).take s).length = s := by simp; omega
  rcases hr.part (i * s) s with hr' | hr'
  · exact ⟨x, o, _, rfl, by rcases k0 with k0 | k0; cases k0; exact k0, hr'.load hlen, hlen, hj i hi, hr'⟩
  · omega
theorem SlE.max {l : List AV} (h : SlE E s H xs l) : xs.length ≤ 9223372036854775807 := by
  obtain ⟨a', s0', cl', e, k0, k1, -⟩ := h
  exact k1
theorem SlE.len {a : Option (Nat × Nat)} {s0 n : Nat} {cl : Bool} (h : SlE E s H xs [.slice a s0 n cl]) : n = xs.length := by
  obtain ⟨a', s0', cl', e, -⟩ := h
  cases e; rfl
end
def EncE {α : Type} (enc : α → List AV) (ok : α → Prop) : Rep α := fun _ a l => l = enc a ∧ ok a
theorem MonoE.enc {α : Type} {enc : α → List AV} {ok : α → Prop} : MonoE (EncE enc ok) := fun _ _ _ _ h _ => h
def I64 (n : Int) : Prop := -9223372036854775808 ≤ n ∧ n ≤ 9223372036854775807
abbrev Pr2 := Int × Int
def prC (p : Pr2) : List AV := [iv p.1, iv p.2]
def prOk (p : Pr2) : Prop := I64 p.1 ∧ I64 p.2
def byC (n : Nat) : List AV := [.int .u8 (n : Int)]
def byOk (n : Nat) : Prop := n < 256
def stC (s : List Nat) : List AV := [.str s]
def stOk (s : List Nat) : Prop := (∀ x, x ∈ s → x < 256) ∧ s.length ≤ 9223372036854775807
abbrev PrE := EncE prC prOk
abbrev ByE := EncE byC byOk
abbrev StE := EncE stC stOk
structure UClass where
  name : List Nat
  super : Int
  fields : Int
  binds : List Pr2
structure UMethod where
  args : Int
  temps : Int
  lits : List Pr2
  code : List Nat
structure UObj where
  cls : Int
  fields : List Pr2
structure UUnit where
  names : List (List Nat)
  classes : List UClass
  methods : List UMethod
  objects : List UObj
  main : Int
def ClE : Rep UClass := fun H c l => ∃ v, l = [.str c.name, iv c.super, iv c.fields, v] ∧ stOk c.name ∧ I64 c.super ∧ I64 c.fields ∧ SlE PrE 2 H c.binds [v]
def MeE : Rep UMethod := fun H m l => ∃ v w, l = [iv m.args, iv m.temps, v, w] ∧ I64 m.args ∧ I64 m.temps ∧ SlE PrE 2 H m.lits [v] ∧ SlE ByE 1 H m.code [w]
def ObE : Rep UObj := fun H o l => ∃ v, l = [iv o.cls, v] ∧ I64 o.cls ∧ SlE PrE 2 H o.fields [v]
def UnE : Rep UUnit := fun H u l => ∃ v1 v2 v3 v4, l = [v1, v2, v3, v4, iv u.main] ∧ I64 u.main ∧ SlE StE 1 H u.names [v1] ∧ SlE ClE 4 H u.classes [v2] ∧ SlE MeE 4 H u.methods [v3] ∧ SlE ObE 2 H u.objects [v4]
theorem MonoE.cl : MonoE ClE := fun H H' c l ⟨v, e, h1, h2, h3, h4⟩ hs => ⟨v, e, h1, h2, h3, MonoE.enc.sl _ _ _ _ h4 hs⟩
theorem MonoE.me : MonoE MeE := fun H H' c l ⟨v, w, e, h1, h2, h3, h4⟩ hs => ⟨v, w, e, h1, h2, MonoE.enc.sl _ _ _ _ h3 hs, MonoE.enc.sl _ _ _ _ h4 hs⟩
theorem MonoE.ob : MonoE ObE := fun H H' c l ⟨v, e, h1, h2⟩ hs => ⟨v, e, h1, MonoE.enc.sl _ _ _ _ h2 hs⟩
theorem MonoE.un : MonoE UnE := fun H H' c l ⟨v1, v2, v3, v4, e, h0, h1, h2, h3, h4⟩ hs => ⟨v1, v2, v3, v4, e, h0, MonoE.enc.sl _ _ _ _ h1 hs, MonoE.cl.sl _ _ _ _ h2 hs, MonoE.me.sl _ _ _ _ h3 hs, MonoE.ob.sl _ _ _ _ h4 hs⟩
theorem bnd {k n d : Nat} (h : k ≤ n) : boundA (some (.int .i64 (k : Int))) 0 n d = some k := by
  have : (0 : Int) ≤ (k : Int) ∧ (k : Int) ≤ (n : Int) := by omega
  simp [boundA, this]
def b4 (n : Int) : List Nat := [(n / 16777216 % 256).toNat, (n / 65536 % 256).toNat, (n / 256 % 256).toNat, (n % 256).toNat]
def I32 (n : Int) : Prop := -2147483648 ≤ n ∧ n < 2147483648
abbrev prB (p : Pr2) : List Nat := b4 p.1 ++ b4 p.2
def rowB {α : Type} (f : α → List Nat) (l : List α) : List Nat := b4 l.length ++ l.flatMap f
def textB (s : List Nat) : List Nat := b4 s.length ++ s
def clB (c : UClass) : List Nat := textB c.name ++ (b4 c.super ++ (b4 c.fields ++ rowB prB c.binds))
def meB (m : UMethod) : List Nat := b4 m.args ++ (b4 m.temps ++ (rowB prB m.lits ++ textB m.code))
def obB (o : UObj) : List Nat := b4 o.cls ++ rowB prB o.fields
def markB : List Nat := [84, 87, 49, 0]
def unB (u : UUnit) : List Nat := rowB textB u.names ++ (rowB clB u.classes ++ (rowB meB u.methods ++ (rowB obB u.objects ++ b4 u.main)))
def bytesP (u : UUnit) : List Nat := markB ++ unB u
theorem b4_len (n : Int) : (b4 n).length = 4 := rfl
theorem b4_inj {n m : Int} (h : I32 n) (h' : I32 m) (e : b4 n = b4 m) : n = m := by
  unfold b4 at e
  simp only [List.cons.injEq, and_true] at e
  obtain ⟨h1, h2⟩ := h
  obtain ⟨h3, h4⟩ := h'
  omega
def PF {α : Type} (f : α → List Nat) (ok : α → Prop) : Prop := ∀ a b r s, ok a → ok b → f a ++ r = f b ++ s → a = b ∧ r = s
theorem app4 {a b r s : List Nat} (h : a.length = b.length) (e : a ++ r = b ++ s) : a = b ∧ r = s := List.append_inj e h
theorem pf4 : PF b4 I32 := fun a b r s ha hb e => by
  obtain ⟨h1, h2⟩ := app4 (by rw [b4_len, b4_len]) e
  exact ⟨b4_inj ha hb h1, h2⟩
theorem i32_nat {n : Nat} (h : n ≤ 2147483647) : I32 (n : Int) := ⟨by omega, by omega⟩
theorem pf_pr : PF prB fun p => I32 p.1 ∧ I32 p.2 := fun a b r s ha hb e => by
  simp only [prB, List.append_assoc] at e
  obtain ⟨h1, e⟩ := pf4 _ _ _ _ ha.1 hb.1 e
  obtain ⟨h2, e⟩ := pf4 _ _ _ _ ha.2 hb.2 e
  exact ⟨Prod.ext h1 h2, e⟩
theorem pf_text : PF textB fun s => s.length ≤ 2147483647 := fun a b r s ha hb e => by
  simp only [textB, List.append_assoc] at e
  obtain ⟨h1, e⟩ := pf4 _ _ _ _ (i32_nat ha) (i32_nat hb) e
  exact app4 (by omega) e
theorem pf_flat {α : Type} {f : α → List Nat} {ok : α → Prop} (hf : PF f ok) : ∀ (a b : List α) (r s : List Nat), a.length = b.length → (∀ x, x ∈ a → ok x) → (∀ x, x ∈ b → ok x) → a.flatMap f ++ r = b.flatMap f ++ s → a = b ∧ r = s
  | [], [], r, s, _, _, _, e => ⟨rfl, e⟩
  | x :: a, y :: b, r, s, hl, ha, hb, e => by
    simp only [List.flatMap_cons, List.append_assoc] at e
    obtain ⟨h1, e⟩ := hf _ _ _ _ (ha x (by simp)) (hb y (by simp)) e
    obtain ⟨h2, e⟩ := pf_flat hf a b r s (by simpa using hl) (fun z hz => ha z (by simp [hz])) (fun z hz => hb z (by simp [hz])) e
    exact ⟨by rw [h1, h2], e⟩
theorem pf_row {α : Type} {f : α → List Nat} {ok : α → Prop} (hf : PF f ok) : PF (rowB f) fun l => l.length ≤ 2147483647 ∧ ∀ x, x ∈ l → ok x := fun a b r s ha hb e => by
  simp only [rowB, List.append_assoc] at e
  obtain ⟨h1, e⟩ := pf4 _ _ _ _ (i32_nat ha.1) (i32_nat hb.1) e
  exact pf_flat hf a b r s (by omega) ha.2 hb.2 e
def okPr (p : Pr2) : Prop := I32 p.1 ∧ I32 p.2
def okPs (k : Nat) (l : List Pr2) : Prop := l.length ≤ k ∧ ∀ x, x ∈ l → okPr x
def okCl (c : UClass) : Prop := c.name.length ≤ 16 ∧ I32 c.super ∧ I32 c.fields ∧ okPs 16 c.binds
def okMe (m : UMethod) : Prop := I32 m.args ∧ I32 m.temps ∧ okPs 16 m.lits ∧ m.code.length ≤ 128
def okOb (o : UObj) : Prop := I32 o.cls ∧ okPs 62 o.fields
structure FitU (u : UUnit) : Prop where
  n : u.names.length ≤ 48 ∧ ∀ s, s ∈ u.names → s.length ≤ 16
  c : u.classes.length ≤ 12 ∧ ∀ s, s ∈ u.classes → okCl s
  m : u.methods.length ≤ 32 ∧ ∀ s, s ∈ u.methods → okMe s
  o : u.objects.length ≤ 40 ∧ ∀ s, s ∈ u.objects → okOb s
  main : I32 u.main
theorem okPs.ok {k : Nat} {l : List Pr2} (h : okPs k l) (hk : k ≤ 100) : l.length ≤ 2147483647 ∧ ∀ x, x ∈ l → I32 x.1 ∧ I32 x.2 := ⟨by have := h.1; omega, h.2⟩
theorem pf_cl : PF clB okCl := fun a b r s ha hb e => by
  simp only [clB, List.append_assoc] at e
  obtain ⟨h1, e⟩ := pf_text _ _ _ _ (by have := ha.1; omega) (by have := hb.1; omega) e
  obtain ⟨h2, e⟩ := pf4 _ _ _ _ ha.2.1 hb.2.1 e
  obtain ⟨h3, e⟩ := pf4 _ _ _ _ ha.2.2.1 hb.2.2.1 e
  obtain ⟨h4, e9⟩ := pf_row pf_pr _ _ _ _ (ha.2.2.2.ok (by omega)) (hb.2.2.2.ok (by omega)) e
  obtain ⟨a1, a2, a3, a4⟩ := a
  obtain ⟨b1, b2, b3, b4⟩ := b
  simp only at h1 h2 h3 h4
  exact ⟨by rw [h1, h2, h3, h4], e9⟩
theorem pf_me : PF meB okMe := fun a b r s ha hb e => by
  simp only [meB, List.append_assoc] at e
  obtain ⟨h1, e⟩ := pf4 _ _ _ _ ha.1 hb.1 e
  obtain ⟨h2, e⟩ := pf4 _ _ _ _ ha.2.1 hb.2.1 e
  obtain ⟨h3, e⟩ := pf_row pf_pr _ _ _ _ (ha.2.2.1.ok (by omega)) (hb.2.2.1.ok (by omega)) e
  obtain ⟨h4, e9⟩ := pf_text _ _ _ _ (by have := ha.2.2.2; omega) (by have := hb.2.2.2; omega) e
  obtain ⟨a1, a2, a3, a4⟩ := a
  obtain ⟨b1, b2, b3, b4⟩ := b
  simp only at h1 h2 h3 h4
  exact ⟨by rw [h1, h2, h3, h4], e9⟩
theorem pf_ob : PF obB okOb := fun a b r s ha hb e => by
  simp only [obB, List.append_assoc] at e
  obtain ⟨h1, e⟩ := pf4 _ _ _ _ ha.1 hb.1 e
  obtain ⟨h3, e9⟩ := pf_row pf_pr _ _ _ _ (ha.2.ok (by omega)) (hb.2.ok (by omega)) e
  obtain ⟨a1, a2⟩ := a
  obtain ⟨b1, b2⟩ := b
  simp only at h1 h3
  exact ⟨by rw [h1, h3], e9⟩
theorem bytesP_inj {u v : UUnit} (hu : FitU u) (hv : FitU v) (e : bytesP u = bytesP v) : u = v := by
  unfold bytesP unB at e
  have e := (List.append_inj e rfl).2
  obtain ⟨h1, e⟩ := pf_row pf_text _ _ _ _ ⟨by have := hu.n.1; omega, fun s hs => by have := hu.n.2 s hs; omega⟩ ⟨by have := hv.n.1; omega, fun s hs => by have := hv.n.2 s hs; omega⟩ e
  obtain ⟨h2, e⟩ := pf_row pf_cl _ _ _ _ ⟨by have := hu.c.1; omega, hu.c.2⟩ ⟨by have := hv.c.1; omega, hv.c.2⟩ e
  obtain ⟨h3, e⟩ := pf_row pf_me _ _ _ _ ⟨by have := hu.m.1; omega, hu.m.2⟩ ⟨by have := hv.m.1; omega, hv.m.2⟩ e
  obtain ⟨h4, e⟩ := pf_row pf_ob _ _ _ _ ⟨by have := hu.o.1; omega, hu.o.2⟩ ⟨by have := hv.o.1; omega, hv.o.2⟩ e
  have h5 := b4_inj hu.main hv.main e
  obtain ⟨a1, a2, a3, a4, a5⟩ := u
  obtain ⟨b1, b2, b3, b4, b5⟩ := v
  simp only at h1 h2 h3 h4 h5
  rw [h1, h2, h3, h4, h5]
theorem flm_len {α : Type} {f : α → List Nat} {k : Nat} : ∀ {l : List α}, (∀ x, x ∈ l → (f x).length ≤ k) → (l.flatMap f).length ≤ l.length * k
  | [], _ => by simp
  | x :: l, h => by
    have h1 := flm_len (f := f) (k := k) (l := l) fun y hy => h y (by simp [hy])
    have h2 := h x (by simp)
    rw [List.flatMap_cons, List.length_append, List.length_cons, Nat.add_mul]
    omega
theorem rowB_len {α : Type} {f : α → List Nat} {k m : Nat} {l : List α} (hl : l.length ≤ m) (h : ∀ x, x ∈ l → (f x).length ≤ k) : (rowB f l).length ≤ 4 + m * k := by
  have := flm_len h
  have h2 : l.length * k ≤ m * k := Nat.mul_le_mul_right k hl
  unfold rowB
  rw [List.length_append, b4_len]
  omega
theorem ps_len {k : Nat} {l : List Pr2} (h : okPs k l) : (rowB prB l).length ≤ 4 + k * 8 := rowB_len h.1 fun x _ => by
  rw [List.length_append, b4_len, b4_len]; omega
theorem FitU.len {u : UUnit} (h : FitU u) : (bytesP u).length ≤ 50000 := by
  have h1 := rowB_len (f := textB) (k := 20) h.n.1 fun s hs => by
    have := h.n.2 s hs
    rw [textB, List.length_append, b4_len]; omega
  have h2 := rowB_len (f := clB) (k := 200) h.c.1 fun c hc => by
    obtain ⟨a1, a2, a3, a4⟩ := h.c.2 c hc
    have := ps_len a4
    simp only [clB, textB, List.length_append, b4_len]; omega
  have h3 := rowB_len (f := meB) (k := 300) h.m.1 fun c hc => by
    obtain ⟨a1, a2, a3, a4⟩ := h.m.2 c hc
    have := ps_len a3
    simp only [meB, textB, List.length_append, b4_len]; omega
  have h4 := rowB_len (f := obB) (k := 520) h.o.1 fun c hc => by
    obtain ⟨a1, a2⟩ := h.o.2 c hc
    have := ps_len a2
    simp only [obB, List.length_append, b4_len]; omega
  unfold bytesP unB markB
  simp only [List.length_append, b4_len, List.length_cons, List.length_nil]
  omega
attribute [local go_sem ↓] WP_seq WP_skip WP_region WP_dregion WP_cond WP_block WP_exit WP_ret OW_nil OW_cons DW_nil DW_cons XW_call reduceIte OW_guard DW_guard
attribute [local go_sem] XW exA KO_eq OptK_some EvK_some GW2_true GW2_false KS_normal KS_ret KS_exit KB_normal KB_ret KB_exit CP2_bool RP_ret putA_some putA_none ev_t ev_c evs evo wantA initA resA Tr.get_set vl chkOk cond_true cond_false Nat.add_zero Nat.mul_one Nat.one_mul Nat.zero_add Nat.zero_mul aggOf pInt binA unA intA beq_true beq_false Bool.not_true Bool.not_false Bool.not_eq_true and_self and_true true_and reduceIte Nat.reduceEqDiff Nat.succ_ne_self Nat.reduceAdd Nat.reduceMul Nat.reduceSub Nat.reduceBEq Nat.reduceLT Nat.reduceLeDiff Int.cast_ofNat_Int Int.reduceToNat Int.reduceLT Int.reduceLE Int.reduceGE Int.reduceGT Int.reduceEq Int.reduceNe Int.reduceAdd Int.reduceSub Int.reduceNeg decide_true decide_false Int.toNat_natCast reduceCtorEq List.nil_append List.cons_append AV.boxy AV.cells List.length_cons List.length_nil Nat.beq_refl AOp.cl KDW_0 KDW_1 KDW_2 OWskip_eq DWskip_eq fillA setAt DChk DAt stepA ble_dec beq_dec Bool.and_self Bool.and_true Bool.true_and Bool.and_false Bool.false_and List.take_succ_cons List.take_zero List.drop_succ_cons List.drop_zero List.take_nil List.drop_nil List.append_nil eqAV eqAVL BEq.rfl sameS Option.map Option.isNone wrap64 gt_iff_lt ge_iff_le Int.lt_irrefl Int.le_refl
set_option maxHeartbeats 2000000
attribute [local irreducible] Tr.set
def gEqual (s : Nat) (agg : Bool) (sh : ESh) : AFunc := { body := .seq (.region [{ dst := some 4, op := .mv (.c (.bool false)), guard := none }]) (.seq (.seq (.region [{ dst := some 6, op := .mv (.t 0), guard := none }, { dst := some 7, op := .lenS false (.t 6), guard := none }, { dst := some 8, op := .mv (.t 1), guard := none }, { dst := some 9, op := .lenS false (.t 8), guard := none }, { dst := some 10, op := .bin (Go.BinOp.neq) (.sc (Go.Proofs.YtojeldemfccilaaGreatDoor.AA.SK.int)) (.t 7) (.t 9), guard := none }]) (.cond (.t 10) (.seq (.region [{ dst := some 4, op := .mv (.c (.bool false)), guard := none }]) (.ret)) (.skip))) (.seq (.seq (.region [{ dst := some 11, op := .mv (.t 0), guard := none }, { dst := some 12, op := .lenS false (.t 11), guard := none }, { dst := some 13, op := .mv (.c (.int (.i64) 0)), guard := none }]) (.block 0 (.loop (.seq (.region [{ dst := some 14, op := .bin (Go.BinOp.lss) (.sc (Go.Proofs.YtojeldemfccilaaGreatDoor.AA.SK.int)) (.t 13) (.t 12), guard := none }]) (.seq (.cond (.t 14) (.skip) (.exit 0)) (.seq (.block 1 (.seq (.region [{ dst := some 15, op := .mv (.t 13), guard := none }, { dst := some 5, op := .mv (.t 15), guard := none }]) (.seq (.dregion [{ dst := some 16, op := .mv (.t 0), guard := none }, { dst := some 17, op := .mv (.t 5), guard := none }, { dst := some 18, op := .iaddrS s (.t 16) (.t 17), guard := none }, { dst := some 19, op := .load s agg (.t 18), guard := none }, { dst := some 20, op := .mv (.t 1), guard := none }, { dst := some 21, op := .mv (.t 5), guard := none }, { dst := some 22, op := .iaddrS s (.t 20) (.t 21), guard := none }, { dst := some 23, op := .load s agg (.t 22), guard := none }, { dst := some 24, op := .bin (Go.BinOp.neq) sh (.t 19) (.t 23), guard := none }] [(0, 0, []), (0, 0, []), (0, 0, [0, 1]), (0, 0, [2, 0, 1]), (0, 0, []), (0, 0, []), (0, 0, [4, 5]), (0, 0, [6, 4, 5]), (0, 0, [3, 2, 0, 1, 7, 6, 4, 5])]) (.cond (.t 24) (.seq (.region [{ dst := some 4, op := .mv (.c (.bool false)), guard := none }]) (.ret)) (.skip))))) (.region [{ dst := some 25, op := .bin (Go.BinOp.add) (.sc (Go.Proofs.YtojeldemfccilaaGreatDoor.AA.SK.int)) (.t 13) (.c (.int (.i64) 1)), guard := none }, { dst := some 13, op := .mv (.t 25), guard := none }]))))))) (.seq (.region [{ dst := some 4, op := .mv (.c (.bool true)), guard := none }]) (.ret)))), results := [Sum.inl 4] }
def gClone (s bytes : Nat) : AFunc := { body := .seq (.region [{ dst := some 2, op := .mv (.c (.slice none 1 0 true)), guard := none }]) (.seq (.seq (.region [{ dst := some 3, op := .mv (.t 0), guard := none }, { dst := some 4, op := .bin (Go.BinOp.eql) (.sc (Go.Proofs.YtojeldemfccilaaGreatDoor.AA.SK.slice)) (.t 3) (.c (.slice none 1 0 true)), guard := none }]) (.cond (.t 4) (.seq (.region [{ dst := some 2, op := .mv (.c (.slice none 1 0 true)), guard := none }]) (.ret)) (.skip))) (.seq (.region [{ dst := some 5, op := .bslice s 0 [] [], guard := none }, { dst := some 6, op := .mv (.t 0), guard := none }, { dst := some 7, op := .append s bytes false (.t 5) (.t 6), guard := none }, { dst := some 2, op := .mv (.t 7), guard := none }]) (.ret))), results := [Sum.inl 2] }
def gClip (s : Nat) : AFunc := { body := .seq (.region [{ dst := some 2, op := .mv (.c (.slice none 1 0 true)), guard := none }]) (.seq (.region [{ dst := some 3, op := .mv (.t 0), guard := none }, { dst := some 4, op := .mv (.t 0), guard := none }, { dst := some 5, op := .lenS false (.t 4), guard := none }, { dst := some 6, op := .mv (.t 0), guard := none }, { dst := some 7, op := .lenS false (.t 6), guard := none }, { dst := some 8, op := .slSlice s (.t 3) none (some (.t 5)) (some (.t 7)), guard := none }, { dst := some 2, op := .mv (.t 8), guard := none }]) (.ret)), results := [Sum.inl 2] }
def gIndexF (s : Nat) : AFunc := { body := .seq (.region [{ dst := some 4, op := .mv (.c (.int (.i64) 0)), guard := none }]) (.seq (.seq (.region [{ dst := some 6, op := .mv (.t 0), guard := none }, { dst := some 7, op := .lenS false (.t 6), guard := none }, { dst := some 8, op := .mv (.c (.int (.i64) 0)), guard := none }]) (.block 0 (.loop (.seq (.region [{ dst := some 9, op := .bin (Go.BinOp.lss) (.sc (Go.Proofs.YtojeldemfccilaaGreatDoor.AA.SK.int)) (.t 8) (.t 7), guard := none }]) (.seq (.cond (.t 9) (.skip) (.exit 0)) (.seq (.block 1 (.seq (.region [{ dst := some 10, op := .mv (.t 8), guard := none }, { dst := some 5, op := .mv (.t 10), guard := none }]) (.seq (.region [{ dst := some 11, op := .mv (.t 1), guard := none }, { dst := some 12, op := .mv (.t 0), guard := none }, { dst := some 13, op := .mv (.t 5), guard := none }, { dst := some 14, op := .iaddrS s (.t 12) (.t 13), guard := none }, { dst := some 15, op := .load s true (.t 14), guard := none }, { dst := some 16, op := .callV (.t 11) [.t 15], guard := none }]) (.cond (.t 16) (.seq (.region [{ dst := some 17, op := .mv (.t 5), guard := none }, { dst := some 4, op := .mv (.t 17), guard := none }]) (.ret)) (.skip))))) (.region [{ dst := some 18, op := .bin (Go.BinOp.add) (.sc (Go.Proofs.YtojeldemfccilaaGreatDoor.AA.SK.int)) (.t 8) (.c (.int (.i64) 1)), guard := none }, { dst := some 8, op := .mv (.t 18), guard := none }]))))))) (.seq (.region [{ dst := some 4, op := .mv (.c (.int (.i64) (-1))), guard := none }]) (.ret))), results := [Sum.inl 4] }
def gContF (f : Nat) : AFunc := { body := .seq (.region [{ dst := some 4, op := .mv (.c (.bool false)), guard := none }]) (.seq (.region [{ dst := some 5, op := .mv (.t 0), guard := none }, { dst := some 6, op := .mv (.t 1), guard := none }, { dst := some 7, op := .call f [.t 5, .t 6], guard := none }, { dst := some 8, op := .bin (Go.BinOp.geq) (.sc (Go.Proofs.YtojeldemfccilaaGreatDoor.AA.SK.int)) (.t 7) (.c (.int (.i64) 0)), guard := none }, { dst := some 4, op := .mv (.t 8), guard := none }]) (.ret)), results := [Sum.inl 4] }
theorem wrapS {i n : Nat} (h : i < n) (hn : n ≤ 9223372036854775807) : IntKind.i64.wrap ((i : Int) + 1) = ((i + 1 : Nat) : Int) := by rw [wrap64 (by omega) (by omega)]; omega
def idxF {α : Type} (p : α → Bool) (xs : List α) : Int := match xs.findIdx? p with
  | some i => (i : Int)
  | none => -1
theorem idxF_at {α : Type} {p : α → Bool} {xs : List α} {i : Nat} (hi : i < xs.length) (hp : p xs[i] = true) (hn : ∀ j (hj : j < i), p (xs[j]'(by omega)) = false) : idxF p xs = (i : Int) := by
  have : xs.findIdx? p = some i := List.findIdx?_eq_some_iff_getElem.2 ⟨hi, hp, fun j hj => by rw [hn j hj]; simp⟩
  simp [idxF, this]
theorem idxF_no {α : Type} {p : α → Bool} {xs : List α} (hn : ∀ j (hj : j < xs.length), p xs[j] = false) : idxF p xs = -1 := by
  have : xs.findIdx? p = none := List.findIdx?_eq_none_iff.2 fun x hx => by
    obtain ⟨j, hj, rfl⟩ := List.getElem_of_mem hx
    exact hn j hj
  simp [idxF, this]
section
variable {α : Type} {E : Rep α} {s : Nat} {H : AHeap} {xs : List α} {v : AV}
theorem c_idxF {f : Nat} (hf : MN.fs f = some (gIndexF s)) (hE : MonoE E) (h : SlE E s H xs [v]) {g : Nat} {caps : List AV} {p : α → Bool}
    (hp : ∀ i (hi : i < xs.length) l H1, Sm H H1 → E H1 xs[i] l → l.length = s → CW MN g (.agg l :: caps) H1 fun u H' => u = .bool (p xs[i]) ∧ Sm H1 H') :
    CW MN f [v, .func (.func g) [] caps] H fun u H' => u = .int .i64 (idxF p xs) ∧ Sm H H' := by
  refine CW_of hf ?_
  obtain ⟨a, s0, cl, rfl, -⟩ := h.shape
  have hmax := h.max
  unfold gIndexF
  simp -implicitDefEqProofs only [go_sem]
  refine WP_loop (fun n fr H' => ∃ i : Nat, n = xs.length - i ∧ i ≤ xs.length ∧ (∀ j (hj : j < i) (hj' : j < xs.length), p xs[j] = false) ∧ fr.get 0 = some (.slice a s0 xs.length cl) ∧ fr.get 1 = some (.func (.func g) [] caps) ∧ fr.get 7 = some (.int .i64 xs.length) ∧ fr.get 8 = some (.int .i64 i) ∧ Sm H H') xs.length ?_ ?_
  · refine ⟨0, rfl, by omega, fun j hj => by omega, ?_⟩
    simp -implicitDefEqProofs only [go_sem]
    exact Chg.refl H
  · rintro n fr H1 ⟨i, hn, hi, hno, g0, g1, g7, g8, s1⟩
    have i0 : (0 : Int) ≤ i := by omega
    by_cases hlt : i < xs.length
    · have hlt' : (i : Int) < (xs.length : Int) := by omega
      have hw := wrapS hlt hmax
      have h1 := hE.sl _ _ _ _ h s1
      obtain ⟨x, o, l, rfl, rfl, ld, hl, he, -⟩ := h1.at hlt
      simp -implicitDefEqProofs only [g0, g1, g7, g8, hlt', i0, ld, go_sem]
      refine CW.mono (hp i hlt l H1 s1 he hl) ?_
      rintro u H2 ⟨rfl, s2⟩
      cases hpi : p xs[i] with
      | true =>
        simp -implicitDefEqProofs only [g0, g1, g7, g8, go_sem]
        exact ⟨by rw [idxF_at hlt hpi fun j hj => hno j hj (by omega)], s1.trans s2⟩
      | false =>
        simp -implicitDefEqProofs only [g0, g1, g7, g8, hw, Bool.false_eq_true, go_sem]
        refine ⟨xs.length - (i + 1), by omega, i + 1, rfl, by omega, fun j hj hj' => ?_, rfl, s1.trans s2⟩
        by_cases e : j = i
        · subst e; exact hpi
        · exact hno j (by omega) hj'
    · have hlt' : ¬ (i : Int) < (xs.length : Int) := by omega
      simp -implicitDefEqProofs only [g0, g1, g7, g8, hlt', Bool.false_eq_true, go_sem]
      exact ⟨by rw [idxF_no fun j hj => hno j (by omega) hj], s1⟩
theorem idxF_nn {p : α → Bool} {xs : List α} : 0 ≤ idxF p xs ↔ xs.any p = true := by
  unfold idxF
  cases h : xs.findIdx? p with
  | none =>
    rw [List.findIdx?_eq_none_iff] at h
    have : xs.any p = false := List.any_eq_false.2 fun x hx => by rw [h x hx]; simp
    rw [this]; simp
  | some i =>
    have : xs.any p = true := by
      rw [List.findIdx?_eq_some_iff_getElem] at h
      obtain ⟨h1, h2, -⟩ := h
      exact List.any_eq_true.2 ⟨xs[i], List.getElem_mem h1, h2⟩
    rw [this]; simp
theorem c_contF {f f' : Nat} (hf' : MN.fs f' = some (gContF f)) (hf : MN.fs f = some (gIndexF s)) (hE : MonoE E) (h : SlE E s H xs [v]) {g : Nat} {caps : List AV} {p : α → Bool}
    (hp : ∀ i (hi : i < xs.length) l H1, Sm H H1 → E H1 xs[i] l → l.length = s → CW MN g (.agg l :: caps) H1 fun u H' => u = .bool (p xs[i]) ∧ Sm H1 H') :
    CW MN f' [v, .func (.func g) [] caps] H fun u H' => u = .bool (xs.any p) ∧ Sm H H' := by
  refine CW_of hf' ?_
  unfold gContF
  simp -implicitDefEqProofs only [go_sem]
  refine CW.mono (c_idxF hf hE h hp) ?_
  rintro u H1 ⟨rfl, s1⟩
  by_cases h0 : 0 ≤ idxF p xs
  · have := idxF_nn.1 h0
    simp -implicitDefEqProofs only [h0, this, go_sem]
    exact s1
  · have : xs.any p = false := by
      cases hh : xs.any p
      · rfl
      · exact absurd (idxF_nn.2 hh) h0
    simp -implicitDefEqProofs only [h0, this, go_sem]
    exact s1
theorem c_equal {enc : α → List AV} {ok : α → Prop} {agg : Bool} {sh : ESh} {f : Nat} {ys : List α} {w : AV} [DecidableEq α] (hf : MN.fs f = some (gEqual s agg sh)) (h : SlE (EncE enc ok) s H xs [v]) (h' : SlE (EncE enc ok) s H ys [w]) {el : α → AV}
    (hel : ∀ a, (enc a).length = s → aggOf agg (enc a) = some (el a)) (hne : ∀ a b, binA .neq sh (el a) (el b) = some (.bool (decide (a ≠ b)))) (hrf : ∀ a, eqAV (el a) (el a) = true) :
    CW MN f [v, w] H fun u H' => u = .bool (decide (xs = ys)) ∧ H' = H := by
  refine CW_of hf ?_
  obtain ⟨a, s0, cl, rfl, -⟩ := h.shape
  obtain ⟨a', s0', cl', rfl, -⟩ := h'.shape
  have hmax := h.max
  unfold gEqual
  by_cases hlen : xs.length = ys.length
  · have hl1 : ((xs.length : Int) != (ys.length : Int)) = false := by simp [hlen]
    simp -implicitDefEqProofs only [hl1, Bool.false_eq_true, go_sem]
    refine WP_loop (fun n fr H' => ∃ i : Nat, n = xs.length - i ∧ i ≤ xs.length ∧ (∀ j (hj : j < i) (hj' : j < xs.length), xs[j] = ys[j]'(by omega)) ∧ fr.get 0 = some (.slice a s0 xs.length cl) ∧ fr.get 1 = some (.slice a' s0' ys.length cl') ∧ fr.get 12 = some (.int .i64 xs.length) ∧ fr.get 13 = some (.int .i64 i) ∧ H' = H) xs.length ?_ ?_
    · refine ⟨0, rfl, by omega, fun j hj => by omega, ?_⟩
      simp -implicitDefEqProofs only [go_sem]
    · rintro n fr H1 ⟨i, hn, hi, heq, g0, g1, g12, g13, rfl⟩
      have i0 : (0 : Int) ≤ i := by omega
      by_cases hlt : i < xs.length
      · have hlt' : (i : Int) < (xs.length : Int) := by omega
        have hlt2 : (i : Int) < (ys.length : Int) := by omega
        have hw := wrapS hlt hmax
        obtain ⟨x, o, l, rfl, rfl, ld, hl, ⟨rfl, -⟩, -⟩ := h.at hlt
        obtain ⟨x', o', l', rfl, rfl, ld', hl', ⟨rfl, -⟩, -⟩ := h'.at (i := i) (by omega)
        have e1 := hel _ hl
        have e2 := hel _ hl'
        have e3 := hne xs[i] (ys[i]'(by omega))
        have r1 := hrf xs[i]
        have r2 := hrf (ys[i]'(by omega))
        have hxi : xs[i] = ys[i]'(by omega) ∨ xs ≠ ys := by
          by_cases e : xs = ys
          · left; subst e; rfl
          · exact .inr e
        have hnext : xs[i] = ys[i]'(by omega) → ∀ j (hj : j < i + 1) (hj' : j < xs.length), xs[j] = ys[j]'(by omega) := fun e j hj hj' => by
          by_cases e' : j = i
          · subst e'; exact e
          · exact heq j (by omega) hj'
        generalize xs[i] = p at e1 e3 r1 hxi hnext ld
        generalize ys[i]'(by omega) = q at e2 e3 r2 hxi hnext ld'
        by_cases hxy : p = q
        · subst hxy
          rw [decide_eq_false (by simp)] at e3
          simp -implicitDefEqProofs only [g0, g1, g12, g13, hlt', hlt2, i0, ld, ld', ↓e1, ↓e2, r1, ↓e3, hw, Bool.false_eq_true, go_sem]
          exact ⟨xs.length - (i + 1), by omega, i + 1, rfl, by omega, hnext rfl, rfl⟩
        · have hx : xs ≠ ys := by
            rcases hxi with e | e
            · exact absurd e hxy
            · exact e
          rw [decide_eq_true hxy] at e3
          simp -implicitDefEqProofs only [g0, g1, g12, g13, hlt', hlt2, i0, ld, ld', ↓e1, ↓e2, r1, r2, ↓e3, hx, go_sem]
      · have hlt' : ¬ (i : Int) < (xs.length : Int) := by omega
        have : xs = ys := List.ext_getElem hlen fun j h1 h2 => heq j (by omega) h1
        subst this
        simp -implicitDefEqProofs only [g0, g1, g12, g13, hlt', Bool.false_eq_true, go_sem]
  · have hl1 : ((xs.length : Int) != (ys.length : Int)) = true := by simp; omega
    have : xs ≠ ys := fun e => hlen (by rw [e])
    simp -implicitDefEqProofs only [hl1, this, go_sem]
end
set_option maxHeartbeats 2000000
def OwS (n0 : Nat) (H : AHeap) (s n : Nat) (u : AV) : Prop := (n = 0 ∧ ∃ s0 cl, u = .slice none s0 0 cl) ∨ ∃ x cl cs, u = .slice (some (x, 0)) s n cl ∧ n0 ≤ x ∧ cs.length = n * s ∧ Arr H x cs fun _ => False
section
variable {α : Type} {E : Rep α} {s : Nat} {H : AHeap} {xs : List α} {v : AV}
theorem SlE.row (hE : MonoE E) {a : Option (Nat × Nat)} {s0 n : Nat} {cl : Bool} (h : SlE E s H xs [.slice a s0 n cl]) : ∃ cs, srcA H s false (.slice a s0 n cl) = some (cs, xs.length) ∧ cs.length = xs.length * s ∧ ∀ j (hj : j < xs.length), E H xs[j] ((cs.drop (j * s)).take s) := by
  obtain ⟨a', s0', cl', e, k0, k1, k⟩ := h
  cases e
  by_cases h0 : xs.length = 0
  · refine ⟨[], ?_, by rw [h0]; simp, fun j hj => by omega⟩
    rw [h0]
    cases a <;> rfl
  · obtain ⟨x, o, cs, rfl, hr, hl, hj⟩ := k h0
    exact ⟨cs, srcA_slice hr hl, hl, hj⟩
theorem SlE.new (hE : MonoE E) {H' : AHeap} {x n : Nat} {cl : Bool} {cs : List AV} (hr : Rd H' x 0 cs) (hn : n = xs.length) (hl : cs.length = xs.length * s) (hm : xs.length ≤ maxLen) (hj : ∀ j (hj : j < xs.length), E H' xs[j] ((cs.drop (j * s)).take s)) : SlE E s H' xs [.slice (some (x, 0)) s n cl] := by
  subst hn
  exact ⟨_, _, _, rfl, .inr rfl, hm, fun _ => ⟨x, 0, cs, rfl, hr, hl, hj⟩⟩
theorem Sl.ubD {D : Nat → Prop} {n : Nat} {cs : List AV} (h : Sl H D s v n cs) {y : Nat} (hy : ub v = some y) : D y := SVok.ubD (x := .sl s n cs) h hy
theorem Sl.slE {D : Nat → Prop} {n : Nat} {cs : List AV} (h : Sl H D s v n cs) (hn : n = xs.length) (hm : xs.length ≤ maxLen) (hj : ∀ j (hj : j < xs.length), E H xs[j] ((cs.drop (j * s)).take s)) : SlE E s H xs [v] := by
  subst hn
  rcases h with ⟨⟨s0, rfl⟩, -, h0⟩ | ⟨x, i, cl, rfl, -, hl, hr, -⟩
  · exact ⟨none, s0, true, by rw [h0], .inl rfl, hm, fun h => absurd h0 h⟩
  · exact ⟨_, _, _, rfl, .inr rfl, hm, fun _ => ⟨x, i, cs, rfl, hr, hl, hj⟩⟩
theorem Arr.newRow (H : AHeap) (l : List AV) (P : Nat → Prop) : Arr (H.newRow l) H.next l P := ⟨by simp [AHeap.newRow, next_new], ofL l 0 .nil, [], by rw [AHeap.newRow, get_new, if_pos rfl], fun j v hj => by
  have := (List.getElem?_eq_some_iff.1 hj).1
  rw [get_ofL, if_pos (by omega), Nat.sub_zero, hj], by simp⟩
theorem c_clone {f bytes : Nat} (hf : MN.fs f = some (gClone s bytes)) (hE : MonoE E) (h : SlE E s H xs [v]) (hb : xs.length * bytes ≤ 140737488355328) (hb0 : 0 < bytes) :
    CW MN f [v] H fun u H' => Sm H H' ∧ SlE E s H' xs [u] ∧ OwS H.next H' s xs.length u := by
  refine CW_of hf ?_
  obtain ⟨a, s0, cl, rfl, hs0⟩ := h.shape
  unfold gClone
  cases a with
  | none =>
    have h0 : xs.length = 0 := by
      by_cases h0 : xs.length = 0
      · exact h0
      · obtain ⟨x, o, l, e, -⟩ := h.at (i := 0) (by omega)
        cases e
    have e1 : eqA (.sc .slice) (.slice none s0 xs.length cl) (.slice none 1 0 true) = some true := rfl
    simp -implicitDefEqProofs only [e1, go_sem]
    have hx : xs = [] := List.eq_nil_of_length_eq_zero h0
    subst hx
    exact ⟨Chg.refl H, ⟨none, 1, true, rfl, .inl rfl, Nat.zero_le _, fun h => absurd rfl h⟩, .inl ⟨rfl, 1, true, rfl⟩⟩
  | some p =>
    obtain ⟨x, o⟩ := p
    obtain rfl : s0 = s := by rcases hs0 with e | e; cases e; exact e
    have e1 : eqA (.sc .slice) (.slice (some (x, o)) s0 xs.length cl) (.slice none 1 0 true) = some false := rfl
    have s1 := Chg.newRow H []
    have h1 := hE.sl _ _ _ _ h s1
    obtain ⟨cs, q1, q2, q3⟩ := h1.row hE
    have hn1 : (H.newRow []).next = H.next + 1 := rfl
    have hld : loadA (H.newRow []) H.next 0 0 = some [] := (Rd.newRow H []).load rfl
    have r0 := Rd.newRow H []
    have a0 := Arr.newRow H [] fun _ => False
    generalize eH1 : H.newRow [] = H1 at s1 h1 q1 q3 hn1 hld r0 a0
    by_cases h0 : xs.length = 0
    · have ap : appendF H1 s0 bytes false (.slice (some (H.next, 0)) s0 0 true) (.slice (some (x, o)) s0 xs.length cl) = some (.slice (some (H.next, 0)) s0 0 true, H1) := by
        rw [h0] at q1
        unfold appendF appendA
        simp only [h0, q1]
        rfl
      simp -implicitDefEqProofs only [e1, eH1, ap, Bool.false_eq_true, go_sem]
      have hx : xs = [] := List.eq_nil_of_length_eq_zero h0
      subst hx
      exact ⟨s1, ⟨_, _, _, rfl, .inr rfl, Nat.zero_le _, fun h => absurd rfl h⟩, .inr ⟨H.next, true, [], rfl, Nat.le_refl _, by simp, a0⟩⟩
    · have hm : xs.length ≤ 140737488355328 := Nat.le_trans (Nat.le_mul_of_pos_right _ hb0) hb
      have ap : appendF H1 s0 bytes false (.slice (some (H.next, 0)) s0 0 true) (.slice (some (x, o)) s0 xs.length cl) = some (.slice (some (H1.next, 0)) s0 xs.length false, H1.newRow cs) := by
        have e2 : xs.length.beq 0 = false := nbf h0
        have e3 : (xs.length * bytes).ble 140737488355328 = true := Nat.ble_eq_true_of_le hb
        have e4 : xs.length.ble 140737488355328 = true := Nat.ble_eq_true_of_le hm
        have e5 : s0.beq s0 = true := Nat.beq_refl _
        unfold appendF appendA
        simp only [q1, e2, e3, e4, e5, Nat.zero_mul, hld, Bool.and_self, cond_true, cond_false, List.nil_append, Nat.zero_add]
      have s2 := Chg.newRow H1 cs
      simp -implicitDefEqProofs only [e1, eH1, ap, Bool.false_eq_true, go_sem]
      exact ⟨s1.trans s2, SlE.new hE (Rd.newRow H1 cs) rfl q2 (by unfold maxLen; omega) fun j hj => hE _ _ _ _ (q3 j hj) s2, .inr ⟨H1.next, false, cs, rfl, by omega, q2, Arr.newRow H1 cs _⟩⟩
theorem c_clip {f : Nat} (hf : MN.fs f = some (gClip s)) (h : SlE E s H xs [v]) : CW MN f [v] H fun u H' => H' = H ∧ SlE E s H xs [u] ∧ ∀ n0, OwS n0 H s xs.length v → OwS n0 H s xs.length u := by
  refine CW_of hf ?_
  obtain ⟨a, s0, cl, rfl, hs0⟩ := h.shape
  unfold gClip
  have b1 : ∀ d, boundA (some (.int .i64 (xs.length : Int))) 0 xs.length d = some xs.length := fun d => bnd (Nat.le_refl _)
  have b2 : boundA none 0 xs.length 0 = some 0 := rfl
  cases a with
  | none =>
    have h0 : xs.length = 0 := by
      by_cases h0 : xs.length = 0
      · exact h0
      · obtain ⟨x, o, l, e, -⟩ := h.at (i := 0) (by omega)
        cases e
    have e1 : slA 0 0 s xs.length cl none (some (.int .i64 (xs.length : Int))) (some (.int .i64 (xs.length : Int))) = some (.slice (some (0, 0)) s xs.length true) := by
      simp only [slA, b1, b2, Option.isSome_some, Option.isNone_some, Bool.and_false, cond_false, cond_true, Nat.zero_mul, Nat.add_zero, Nat.sub_zero, Nat.beq_refl]
    simp -implicitDefEqProofs only [e1, go_sem]
    have hx : xs = [] := List.eq_nil_of_length_eq_zero h0
    subst hx
    exact ⟨⟨none, s, true, rfl, .inl rfl, Nat.zero_le _, fun h => absurd rfl h⟩, fun n0 _ => .inl ⟨rfl, s, true, rfl⟩⟩
  | some p =>
    obtain ⟨x, o⟩ := p
    obtain rfl : s0 = s := by rcases hs0 with e | e; cases e; exact e
    have e1 : slA x o s0 xs.length cl none (some (.int .i64 (xs.length : Int))) (some (.int .i64 (xs.length : Int))) = some (.slice (some (x, o)) s0 xs.length true) := by
      simp only [slA, b1, b2, Option.isSome_some, Option.isNone_some, Bool.and_false, cond_false, cond_true, Nat.zero_mul, Nat.add_zero, Nat.sub_zero, Nat.beq_refl]
    simp -implicitDefEqProofs only [e1, Nat.beq_refl, go_sem]
    obtain ⟨a', s0', cl', e, k0, k1, k⟩ := h
    cases e
    refine ⟨⟨_, _, _, rfl, .inr rfl, k1, k⟩, fun n0 ho => ?_⟩
    rcases ho with ⟨-, s1, c1, e⟩ | ⟨y, c1, cs, e, h1, h2, h3⟩
    · cases e
    · cases e
      exact .inr ⟨x, true, cs, rfl, h1, h2, h3⟩
end
set_option maxHeartbeats 2000000
def inC (e : Int) : List AV := [iv e]
abbrev InE := EncE inC I64
def dC : UClass := ⟨[], 0, 0, []⟩
def clAt (l : List UClass) (i : Int) : UClass := l.getD i.toNat dC
def chainN : Nat → List UClass → Int → List Int
  | 0, _, _ => []
  | n + 1, l, i => if 0 ≤ i ∧ i < l.length then i :: chainN n l (clAt l i).super else []
def chainP (l : List UClass) (i : Int) : List Int := chainN 8 l i
theorem clAt_nat {l : List UClass} {i : Nat} (h : i < l.length) : clAt l (i : Int) = l[i] := by
  rw [clAt, Int.toNat_natCast, List.getD_eq_getElem?_getD, List.getElem?_eq_getElem h]; rfl
theorem ClE.at {H : AHeap} {l : List UClass} {a : Option (Nat × Nat)} {s0 n : Nat} {cl : Bool} (h : SlE ClE 4 H l [.slice a s0 n cl]) {i : Nat} (hi : i < l.length) : ∃ x o vb, a = some (x, o) ∧ s0 = 4 ∧ loadA H x (o + i * 4) 4 = some [.str l[i].name, iv l[i].super, iv l[i].fields, vb] ∧ loadA H x (o + i * 4) 1 = some [.str l[i].name] ∧ loadA H x (o + i * 4 + 1) 1 = some [iv l[i].super] ∧ loadA H x (o + i * 4 + 2) 1 = some [iv l[i].fields] ∧ loadA H x (o + i * 4 + 3) 1 = some [vb] ∧ SlE PrE 2 H l[i].binds [vb] ∧ stOk l[i].name ∧ I64 l[i].super ∧ I64 l[i].fields ∧ x < H.next := by
  obtain ⟨x, o, r, rfl, rfl, ld, hl, ⟨vb, rfl, h1, h2, h3, h4⟩, hr⟩ := h.at hi
  have r0 := hr.one (j := 0) rfl
  rw [Nat.add_zero] at r0
  exact ⟨x, o, vb, rfl, rfl, ld, r0, hr.one (j := 1) rfl, hr.one (j := 2) rfl, hr.one (j := 3) rfl, h4, h1, h2, h3, hr.1⟩
theorem ints_map (l : List Int) : l.flatMap inC = l.map iv := by
  induction l with
  | nil => rfl
  | cons x l ih => rw [List.flatMap_cons, ih]; rfl
theorem ints_at {l : List Int} {j : Nat} (hj : j < l.length) : ((l.flatMap inC).drop (j * 1)).take 1 = [iv l[j]] := by
  have e := ints_map l
  have hl : j < (l.map iv).length := by simpa using hj
  rw [e, Nat.mul_one, List.drop_eq_getElem_cons hl]
  simp
theorem c_Chain {H : AHeap} {l : List UClass} {v : AV} (h : SlE ClE 4 H l [v]) {i : Int} (hi64 : I64 i) : CW MN 115 [v, .int .i64 i] H fun u H' => Sm H H' ∧ SlE InE 1 H' (chainP l i) [u] := by
  refine CW_of (fn := af115) rfl ?_
  obtain ⟨a, s0, cl, rfl, -⟩ := h.shape
  have hmax := h.max
  dsimp only [af115, qm, q, qG, qn, qi, qb, qB, qk, qc, qo, qg, qv, qr]
  simp -implicitDefEqProofs only [go_sem]
  refine WP_mono (Q := fun ex fr H' => ex = .exit 0 ∧ ∃ u, fr.get 5 = some u ∧ SlE InE 1 H' (chainP l i) [u] ∧ Sm H H') ?_ (WP_loop (fun n fr H' => ∃ (k : Int) (out : List Int) (u : AV) (D : Nat → Prop), n = 8 - out.length ∧ out.length ≤ 8 ∧ (∀ x, x ∈ out → I64 x) ∧ chainP l i = out ++ chainN (8 - out.length) l k ∧ I64 k ∧ fr.get 0 = some (.slice a s0 l.length cl) ∧ fr.get 1 = some (.int .i64 k) ∧ fr.get 5 = some u ∧ Sl H' D 1 u out.length (out.flatMap inC) ∧ (∀ x, D x → H.next ≤ x) ∧ Sm H H') 8 ?_ ?_)
  rotate_left
  · refine ⟨i, [], .slice none 1 0 true, fun _ => False, rfl, by simp, by simp, rfl, hi64, ?_⟩
    simp -implicitDefEqProofs only [go_sem]
    exact ⟨.inl ⟨⟨1, rfl⟩, rfl, rfl⟩, by simp, Chg.refl H⟩
  · rintro n fr H1 ⟨k, out, u, D, hn, ho, hok, hch, k64, g0, g1, g5, hsl, hD, s1⟩
    obtain ⟨au, clu, su, rfl⟩ := slice_len hsl
    have fin : (out.length = 8 ∨ ¬ (0 ≤ k ∧ k < l.length)) → SlE InE 1 H1 (chainP l i) [.slice au su out.length clu] := fun hf => by
      have e : chainP l i = out := by
        rw [hch]
        rcases hf with hf | hf
        · rw [hf]; simp [chainN]
        · cases h8 : 8 - out.length with
          | zero => simp [chainN]
          | succ m => unfold chainN; rw [if_neg hf]; simp
      rw [e]
      exact hsl.slE rfl (by unfold maxLen; omega) fun j hj => ⟨ints_at hj, hok _ (List.getElem_mem hj)⟩
    by_cases hk : 0 ≤ k ∧ k < l.length
    · obtain ⟨m, rfl⟩ : ∃ m : Nat, k = m := ⟨k.toNat, by omega⟩
      have hml : m < l.length := by omega
      have k0 : (0 : Int) ≤ (m : Int) := by omega
      have hk' : (m : Int) < (l.length : Int) := by omega
      by_cases h8 : out.length < 8
      · have h8' : (out.length : Int) < 8 := by omega
        obtain ⟨H2, q1, q2, q3, q4⟩ := hsl.push1 (bytes := 8) (ys := [iv (m : Int)]) rfl (by omega) (by omega)
        have hub : ∀ x, ub (.slice au su out.length clu) = some x → H.next ≤ x := fun x hx => hD x (hsl.ubD hx)
        have s2 : Sm H H2 := s1.weak q3 hub
        have h2 := MonoE.cl.sl _ _ _ _ h s2
        obtain ⟨x, o, vb, rfl, rfl, -, -, ls, -, -, -, -, hsu, -⟩ := ClE.at h2 hml
        simp -implicitDefEqProofs only [iv] at q1 ls
        simp -implicitDefEqProofs only [g0, g1, g5, k0, hk', h8', q1, ls, go_sem]
        refine ⟨8 - (out.length + 1), by omega, l[m].super, out ++ [(m : Int)], _, fun x => x = H1.next + 1, by simp, by simp; omega, ?_, ?_, hsu, rfl, rfl, ?_, ?_, s2⟩
        · intro x hx
          rcases List.mem_append.1 hx with hx | hx
          · exact hok x hx
          · obtain rfl : x = m := by simpa using hx
            exact k64
        · rw [hch, show 8 - out.length = (8 - (out ++ [(m : Int)]).length) + 1 by simp; omega]
          rw [chainN, if_pos hk, clAt_nat hml, List.append_assoc]; rfl
        · have e1 : (out ++ [(m : Int)]).flatMap inC = out.flatMap inC ++ [iv (m : Int)] := by simp [inC]
          rw [e1, List.length_append]
          exact q4
        · have := s1.1
          intro x hx; omega
      · have h8' : ¬ (out.length : Int) < 8 := by omega
        simp -implicitDefEqProofs only [g0, g1, g5, k0, hk', h8', Bool.false_eq_true, go_sem]
        exact ⟨_, rfl, fin (.inl (by omega)), s1⟩
    · by_cases k0 : (0 : Int) ≤ k
      · have hk' : ¬ k < (l.length : Int) := by omega
        simp -implicitDefEqProofs only [g0, g1, g5, k0, hk', Bool.false_eq_true, go_sem]
        exact ⟨_, rfl, fin (.inr hk), s1⟩
      · simp -implicitDefEqProofs only [g0, g1, g5, k0, Bool.false_eq_true, go_sem]
        exact ⟨_, rfl, fin (.inr hk), s1⟩
  · rintro ex fr H1 ⟨rfl, u, g5, hu, s1⟩
    simp -implicitDefEqProofs only [g5, go_sem]
    refine CW.mono (c_clip (f := 125) (s := 1) rfl hu) ?_
    rintro w H2 ⟨rfl, hw, -⟩
    simp -implicitDefEqProofs only [go_sem]
    exact ⟨s1, hw⟩
theorem c_Depth {H : AHeap} {l : List UClass} {v : AV} (h : SlE ClE 4 H l [v]) {i : Int} (hi64 : I64 i) : CW MN 100 [v, .int .i64 i] H fun u H' => u = .int .i64 (chainP l i).length ∧ Sm H H' := by
  refine CW_of (fn := af100) rfl ?_
  dsimp only [af100, qm, q, qG, qn, qi, qb, qB, qk, qc, qo, qg, qv, qr]
  simp -implicitDefEqProofs only [go_sem]
  refine CW.mono (c_Chain h hi64) ?_
  rintro u H1 ⟨s1, hu⟩
  obtain ⟨a, s0, cl, rfl, -⟩ := hu.shape
  simp -implicitDefEqProofs only [go_sem]
  exact s1
set_option maxHeartbeats 2000000
section
variable {α : Type} {E : Rep α} {s : Nat} {H : AHeap} {xs : List α}
theorem SlE.pre {x o s0 n : Nat} {cl : Bool} (h : SlE E s H xs [.slice (some (x, o)) s0 n cl]) {k : Nat} (hk : k ≤ xs.length) : slA x o s n cl none (some (.int .i64 (k : Int))) none = some (.slice (some (x, o)) s k (cl && decide (k = n))) ∧ SlE E s H (xs.take k) [.slice (some (x, o)) s k (cl && decide (k = n))] := by
  obtain ⟨a', s0', cl', e, k0, k1, kk⟩ := h
  cases e
  have b1 : boundA none 0 xs.length xs.length = some xs.length := rfl
  have b2 : boundA none 0 k 0 = some 0 := rfl
  have hlen : (xs.take k).length = k := by simp; omega
  refine ⟨?_, _, _, _, by rw [hlen], .inr rfl, by rw [hlen]; omega, fun h0 => ?_⟩
  · simp only [slA, b1, bnd hk, b2, Option.isSome_none, Bool.false_and, cond_false, Nat.zero_mul, Nat.add_zero, Nat.sub_zero, beq_dec]
  · rw [hlen] at h0
    obtain ⟨x, o, cs, e, hr, hl, hj⟩ := kk (by omega)
    cases e
    have hle : k * s ≤ xs.length * s := Nat.mul_le_mul_right s hk
    refine ⟨x, o, cs.take (k * s), rfl, hr.pre _, by rw [List.length_take, hlen]; omega, fun j hj' => ?_⟩
    rw [hlen] at hj'
    have e1 := hj j (by omega)
    rw [List.getElem_take]
    have hle2 : (j + 1) * s ≤ k * s := Nat.mul_le_mul_right s (by omega)
    rw [Nat.add_mul, Nat.one_mul] at hle2
    have : ((cs.take (k * s)).drop (j * s)).take s = (cs.drop (j * s)).take s := by
      rw [List.drop_take, List.take_take, Nat.min_eq_left (by omega)]
    rw [this]; exact e1
end
theorem I64.int {n : Int} (h : I64 n) : -9223372036854775808 ≤ n ∧ n ≤ 9223372036854775807 := h
def superP (l : List UClass) (i : Nat) : Bool := decide (0 ≤ (clAt l i).fields ∧ (clAt l i).fields ≤ 62 ∧ -1 ≤ (clAt l i).super ∧ (clAt l i).super < i) && (decide ((clAt l i).super = -1) || (decide ((chainP l (clAt l i).super).length < 8) && decide ((clAt l (clAt l i).super).fields ≤ (clAt l i).fields)))
theorem c_super {H : AHeap} {l : List UClass} {v : AV} (h : SlE ClE 4 H l [v]) {i : Nat} (hi : i < l.length) : CW MN 87 [v, .int .i64 i] H fun u H' => u = .bool (superP l i) ∧ Sm H H' := by
  refine CW_of (fn := af87) rfl ?_
  obtain ⟨a, s0, cl, rfl, -⟩ := h.shape
  obtain ⟨x, o, vb, rfl, rfl, ld, -, -, -, -, -, hnm, hsu, hfi, hx⟩ := ClE.at h hi
  have i0 : (0 : Int) ≤ (i : Int) := by omega
  have hi' : (i : Int) < (l.length : Int) := by omega
  obtain ⟨H1, q1, q2, s1, r1⟩ := store_new H [.str [], .int .i64 0, .int .i64 0, .slice none 1 0 true] [.str l[i].name, iv l[i].super, iv l[i].fields, vb] rfl
  have ls := r1.one (j := 1) rfl
  have lf := r1.one (j := 2) rfl
  rw [Nat.zero_add] at ls lf
  have e : clAt l i = l[i] := clAt_nat hi
  unfold superP
  rw [e]
  generalize l[i] = c at *
  obtain ⟨nm, su, fi, bi⟩ := c
  simp only [iv] at *
  dsimp only [af87, qm, q, qG, qn, qi, qb, qB, qk, qc, qo, qg, qv, qr]
  by_cases f0 : fi < 0
  · have : ¬ 0 ≤ fi := by omega
    simp -implicitDefEqProofs only [i0, hi', ld, q1, ls, lf, f0, this, false_and, go_sem]
    exact s1
  · have f0' : 0 ≤ fi := by omega
    by_cases f62 : 62 < fi
    · have : ¬ fi ≤ 62 := by omega
      simp -implicitDefEqProofs only [i0, hi', ld, q1, ls, lf, f0, f62, this, false_and, and_false, Bool.false_eq_true, go_sem]
      exact s1
    · have f62' : fi ≤ 62 := by omega
      by_cases s0 : su < -1
      · have : ¬ -1 ≤ su := by omega
        simp -implicitDefEqProofs only [i0, hi', ld, q1, ls, lf, f0, f62, s0, this, false_and, and_false, Bool.false_eq_true, go_sem]
        exact s1
      · have s0' : -1 ≤ su := by omega
        by_cases si : (i : Int) ≤ su
        · have : ¬ su < (i : Int) := by omega
          simp -implicitDefEqProofs only [i0, hi', ld, q1, ls, lf, f0, f62, s0, si, this, and_false, Bool.false_eq_true, go_sem]
          exact s1
        · have si' : su < (i : Int) := by omega
          by_cases sm : su = -1
          · have sb : (su == -1) = true := by simp [sm]
            simp -implicitDefEqProofs only [i0, hi', ld, q1, ls, lf, f0, f62, s0, si, f0', f62', s0', si', sb, Bool.true_or, go_sem]
            subst sm
            exact ⟨rfl, s1⟩
          · have sb : (su == -1) = false := by simpa using sm
            have hs64 : I64 su := hsu
            obtain ⟨k, rfl⟩ : ∃ k : Nat, su = k := ⟨su.toNat, by omega⟩
            have k0 : (0 : Int) ≤ (k : Int) := by omega
            have kl : (k : Int) < (l.length : Int) := by omega
            simp -implicitDefEqProofs only [i0, hi', ld, q1, ls, lf, f0, f62, s0, si, f0', f62', s0', si', sb, sm, Bool.false_eq_true, Bool.false_or, go_sem]
            refine CW.mono (c_Depth (MonoE.cl.sl _ _ _ _ h s1) hs64) ?_
            rintro u H2 ⟨rfl, s2⟩
            obtain ⟨x', o', vb', e', -, -, -, -, lf2, -⟩ := ClE.at (MonoE.cl.sl _ _ _ _ h (s1.trans s2)) (i := k) (by omega)
            cases e'
            have lf' : loadA H2 H.next 2 1 = some [.int .i64 fi] := by rw [s2.ld (by omega), lf]
            have ls' : loadA H2 H.next 1 1 = some [.int .i64 (k : Int)] := by rw [s2.ld (by omega), ls]
            have eck : clAt l (k : Int) = l[k] := clAt_nat (by omega)
            rw [eck]
            simp -implicitDefEqProofs only [iv] at lf2
            by_cases d8 : (chainP l (k : Int)).length < 8
            · have d8' : ((chainP l (k : Int)).length : Int) < 8 := by omega
              simp -implicitDefEqProofs only [d8, d8', ls, lf, lf', ls', k0, kl, lf2, i0, hi', go_sem]
              exact s1.trans s2
            · have d8' : ¬ ((chainP l (k : Int)).length : Int) < 8 := by omega
              simp -implicitDefEqProofs only [d8, d8', Bool.false_eq_true, ls, go_sem]
              exact s1.trans s2
def okB (n m : Int) (b : Pr2) : Bool := decide (0 ≤ b.1) && decide (b.1 < n) && decide (0 ≤ b.2) && decide (b.2 < m)
def bindAt (l : List Pr2) (n m : Int) (i : Nat) : Bool := okB n m (l.getD i (0, 0)) && !((l.take i).any fun x => x.1 == (l.getD i (0, 0)).1)
def bindsP (l : List Pr2) (n m : Int) : Bool := ((List.range l.length).all (bindAt l n m)) && decide (l.length ≤ 16)
theorem bindAt_nat {l : List Pr2} {n m : Int} {i : Nat} (h : i < l.length) : bindAt l n m i = (okB n m l[i] && !((l.take i).any fun x => x.1 == l[i].1)) := by
  have : l.getD i (0, 0) = l[i] := by rw [List.getD_eq_getElem?_getD, List.getElem?_eq_getElem h]; rfl
  rw [bindAt, this]
theorem bindsP_bad {l : List Pr2} {n m : Int} {i : Nat} (h : i < l.length) (hb : bindAt l n m i = false) : bindsP l n m = false := by
  have : (List.range l.length).all (bindAt l n m) = false := List.all_eq_false.2 ⟨i, List.mem_range.2 h, by rw [hb]; simp⟩
  simp [bindsP, this]
theorem bindsP_all {l : List Pr2} {n m : Int} (h : ∀ i, i < l.length → bindAt l n m i = true) : bindsP l n m = decide (l.length ≤ 16) := by
  have : (List.range l.length).all (bindAt l n m) = true := List.all_eq_true.2 fun i hi => h i (List.mem_range.1 hi)
  simp [bindsP, this]
theorem c_binds1 {H : AHeap} {p : Pr2} {b : Nat} {c : Int} (hb : loadA H b 0 1 = some [.int .i64 c]) (hbn : b < H.next) : CW MN 102 [.agg (prC p), .ptr (some (b, 0))] H fun u H' => u = .bool (p.1 == c) ∧ Sm H H' := by
  refine CW_of (fn := af102) rfl ?_
  dsimp only [af102, qm, q, qG, qn, qi, qb, qB, qk, qc, qo, qg, qv, qr]
  have s1 := Chg.newRow H (prC p)
  have l1 := (Rd.newRow H (prC p)).one (j := 0) rfl
  have l2 : loadA (H.newRow (prC p)) b 0 1 = some [.int .i64 c] := by rw [s1.ld hbn, hb]
  generalize eH1 : H.newRow (prC p) = H1 at s1 l1 l2
  simp -implicitDefEqProofs only [iv, Nat.zero_add] at l1
  simp -implicitDefEqProofs only [eH1, l1, l2, go_sem]
  exact s1
theorem PrE.at {H : AHeap} {l : List Pr2} {a : Option (Nat × Nat)} {s0 n : Nat} {cl : Bool} (h : SlE PrE 2 H l [.slice a s0 n cl]) {i : Nat} (hi : i < l.length) : ∃ x o, a = some (x, o) ∧ s0 = 2 ∧ loadA H x (o + i * 2) 2 = some [.int .i64 l[i].1, .int .i64 l[i].2] ∧ loadA H x (o + i * 2) 1 = some [.int .i64 l[i].1] ∧ loadA H x (o + i * 2 + 1) 1 = some [.int .i64 l[i].2] ∧ I64 l[i].1 ∧ I64 l[i].2 ∧ x < H.next := by
  obtain ⟨x, o, r, rfl, rfl, ld, hl, ⟨rfl, h1, h2⟩, hr⟩ := h.at hi
  have r0 := hr.one (j := 0) rfl
  rw [Nat.add_zero] at r0
  exact ⟨x, o, rfl, rfl, ld, r0, hr.one (j := 1) rfl, h1, h2, hr.1⟩
theorem c_binds {H : AHeap} {l : List Pr2} {v : AV} {n m : Int} (h : SlE PrE 2 H l [v]) : CW MN 88 [v, .int .i64 n, .int .i64 m] H fun u H' => u = .bool (bindsP l n m) ∧ Sm H H' := by
  refine CW_of (fn := af88) rfl ?_
  obtain ⟨a, s0, cl, rfl, -⟩ := h.shape
  have hmax := h.max
  dsimp only [af88, qm, q, qG, qn, qi, qb, qB, qk, qc, qo, qg, qv, qr]
  simp -implicitDefEqProofs only [go_sem]
  refine WP_loop (fun k fr H' => ∃ i : Nat, k = l.length - i ∧ i ≤ l.length ∧ (∀ j, j < i → bindAt l n m j = true) ∧ fr.get 0 = some (.slice a s0 l.length cl) ∧ fr.get 1 = some (.int .i64 n) ∧ fr.get 2 = some (.int .i64 m) ∧ fr.get 9 = some (.slice a s0 l.length cl) ∧ fr.get 10 = some (.int .i64 l.length) ∧ fr.get 11 = some (.int .i64 i) ∧ Sm H H') l.length ?_ ?_
  · refine ⟨0, rfl, by omega, fun j hj => by omega, ?_⟩
    simp -implicitDefEqProofs only [go_sem]
    exact Chg.refl H
  · rintro k fr H1 ⟨i, hk, hi, hall, g0, g1, g2, g9, g10, g11, s1⟩
    have i0 : (0 : Int) ≤ i := by omega
    by_cases hlt : i < l.length
    · have hlt' : (i : Int) < (l.length : Int) := by omega
      have hw := wrapS hlt hmax
      have h1 := MonoE.enc.sl _ _ _ _ h s1
      obtain ⟨x, o, rfl, rfl, ld, -, -, -, -, hx⟩ := PrE.at h1 hlt
      have hbi := bindAt_nat (n := n) (m := m) hlt
      obtain ⟨e1, e2⟩ := h1.pre (k := i) (by omega)
      obtain ⟨H2, q1, q2, s2, r2⟩ := store_new H1 [.int .i64 0, .int .i64 0] [.int .i64 l[i].1, .int .i64 l[i].2] rfl
      have lf := r2.one (j := 0) rfl
      have lg := r2.one (j := 1) rfl
      rw [Nat.zero_add] at lf lg
      have s12 := s1.trans s2
      have bad : bindAt l n m i = false → bindsP l n m = false := bindsP_bad hlt
      have hh : ∀ c : Int, (∀ p : Pr2, True) := fun _ _ => trivial
      generalize l[i] = p at ld hbi q1 lf lg
      obtain ⟨p1, p2⟩ := p
      dsimp only at *
      by_cases c1 : p1 < 0
      · simp -implicitDefEqProofs only [g0, g1, g2, g9, g10, g11, i0, hlt', ld, q1, lf, lg, c1, go_sem]
        exact ⟨by rw [bad (by rw [hbi]; simp [okB]; omega)], s12⟩
      · by_cases c2 : n ≤ p1
        · simp -implicitDefEqProofs only [g0, g1, g2, g9, g10, g11, i0, hlt', ld, q1, lf, lg, c1, c2, Bool.false_eq_true, go_sem]
          exact ⟨by rw [bad (by rw [hbi]; simp [okB]; omega)], s12⟩
        · by_cases c3 : p2 < 0
          · simp -implicitDefEqProofs only [g0, g1, g2, g9, g10, g11, i0, hlt', ld, q1, lf, lg, c1, c2, c3, Bool.false_eq_true, go_sem]
            exact ⟨by rw [bad (by rw [hbi]; simp [okB]; omega)], s12⟩
          · by_cases c4 : m ≤ p2
            · simp -implicitDefEqProofs only [g0, g1, g2, g9, g10, g11, i0, hlt', ld, q1, lf, lg, c1, c2, c3, c4, Bool.false_eq_true, go_sem]
              exact ⟨by rw [bad (by rw [hbi]; simp [okB]; omega)], s12⟩
            · have hok : okB n m (p1, p2) = true := by simp [okB]; omega
              simp -implicitDefEqProofs only [g0, g1, g2, g9, g10, g11, i0, hlt', ld, q1, lf, lg, c1, c2, c3, c4, e1, Bool.false_eq_true, go_sem]
              refine CW.mono (c_contF (f := 116) (f' := 101) (s := 2) rfl rfl MonoE.enc (MonoE.enc.sl _ _ _ _ e2 s2) (p := fun x => x.1 == p1) ?_) ?_
              · rintro j hj r H3 s3 ⟨rfl, -⟩ -
                exact c_binds1 (by rw [s3.ld (by omega), lf]) (by have := s3.1; omega)
              rintro u H3 ⟨rfl, s3⟩
              cases hany : (l.take i).any fun x => x.1 == p1 with
              | true =>
                simp -implicitDefEqProofs only [g0, g1, g2, go_sem]
                exact ⟨by rw [bad (by rw [hbi, hany, hok]; rfl)], s12.trans s3⟩
              | false =>
                simp -implicitDefEqProofs only [g0, g1, g2, g9, g10, g11, hw, Bool.false_eq_true, go_sem]
                refine ⟨l.length - (i + 1), by omega, i + 1, rfl, by omega, fun j hj => ?_, rfl, s12.trans s3⟩
                by_cases e : j = i
                · subst e; rw [hbi, hany, hok]; rfl
                · exact hall j (by omega)
    · have hlt' : ¬ (i : Int) < (l.length : Int) := by omega
      have hb := bindsP_all fun j hj => hall j (by omega)
      by_cases h16 : l.length ≤ 16
      · have h16' : (l.length : Int) ≤ 16 := by omega
        simp -implicitDefEqProofs only [g0, g1, g2, g9, g10, g11, hlt', hb, h16, h16', Bool.false_eq_true, go_sem]
        exact s1
      · have h16' : ¬ (l.length : Int) ≤ 16 := by omega
        simp -implicitDefEqProofs only [g0, g1, g2, g9, g10, g11, hlt', hb, h16, h16', Bool.false_eq_true, go_sem]
        exact s1
set_option maxHeartbeats 2000000
def firstBad (n : Nat) (f : Nat → Int) : Int := match (List.range n).find? (fun i => f i != 0) with
  | some i => f i
  | none => 0
theorem firstBad_at {n i : Nat} {f : Nat → Int} (h : ∀ j, j < i → f j = 0) (hi : i < n) (hb : f i ≠ 0) : firstBad n f = f i := by
  have : (List.range n).find? (fun i => f i != 0) = some i := by
    rw [List.find?_eq_some_iff_append]
    refine ⟨by simpa using hb, List.range i, (List.range n).drop (i + 1), ?_, fun j hj => ?_⟩
    · have e1 : (List.range n) = (List.range n).take i ++ (List.range n)[i]'(by simpa using hi) :: (List.range n).drop (i + 1) := by
        rw [← List.drop_eq_getElem_cons, List.take_append_drop]
      rw [List.getElem_range, List.take_range, Nat.min_eq_left (by omega)] at e1
      exact e1
    · have := h j (List.mem_range.1 hj)
      simp [this]
  rw [firstBad, this]
theorem firstBad_no {n : Nat} {f : Nat → Int} (h : ∀ j, j < n → f j = 0) : firstBad n f = 0 := by
  have : (List.range n).find? (fun i => f i != 0) = none := List.find?_eq_none.2 fun j hj => by
    have := h j (List.mem_range.1 hj)
    simp [this]
  rw [firstBad, this]
def classAt (l : List UClass) (n m : Int) (i : Nat) : Int :=
  if (decide ((clAt l i).name.length < 1) || decide (16 < (clAt l i).name.length) || (l.take i).any fun x => x.name == (clAt l i).name) = true then 13
  else if superP l i = false then 14
  else if bindsP (clAt l i).binds n m = false then 15 else 0
theorem classAt_nat {l : List UClass} {n m : Int} {i : Nat} (h : i < l.length) : classAt l n m i = if (decide (l[i].name.length < 1) || decide (16 < l[i].name.length) || (l.take i).any fun x => x.name == l[i].name) = true then 13
  else if superP l i = false then 14
  else if bindsP l[i].binds n m = false then 15 else 0 := by rw [classAt, clAt_nat h]
def shapeP (l : List UClass) (n m : Int) : Int :=
  if l.length < 2 ∨ 12 < l.length then 3
  else if (clAt l 0).super ≠ -1 ∨ (clAt l 1).super ≠ -1 ∨ (clAt l 0).fields ≠ 4 ∨ (clAt l 1).fields ≠ 0 then 14
  else firstBad l.length (classAt l n m)
theorem c_shape1 {H : AHeap} {c : List AV} {nm : List Nat} {b : Nat} {s : List Nat} (hb : loadA H b 0 1 = some [.str s]) (hbn : b < H.next) (hc : c[0]? = some (.str nm)) : CW MN 86 [.agg c, .ptr (some (b, 0))] H fun u H' => u = .bool (nm == s) ∧ Sm H H' := by
  refine CW_of (fn := af86) rfl ?_
  dsimp only [af86, qm, q, qG, qn, qi, qb, qB, qk, qc, qo, qg, qv, qr]
  have s1 := Chg.newRow H c
  have l1 := (Rd.newRow H c).one (j := 0) hc
  have l2 : loadA (H.newRow c) b 0 1 = some [.str s] := by rw [s1.ld hbn, hb]
  generalize eH1 : H.newRow c = H1 at s1 l1 l2
  simp -implicitDefEqProofs only [Nat.zero_add] at l1
  simp -implicitDefEqProofs only [eH1, l1, l2, go_sem]
  exact s1
theorem c_shapeRight {H : AHeap} {l : List UClass} {v : AV} (h : SlE ClE 4 H l [v]) (n m : Int) : CW MN 57 [v, .int .i64 n, .int .i64 m] H fun u H' => u = .int .i64 (shapeP l n m) ∧ Sm H H' := by
  refine CW_of (fn := af57) rfl ?_
  obtain ⟨a, s0, cl, rfl, -⟩ := h.shape
  have hmax := h.max
  dsimp only [af57, qm, q, qG, qn, qi, qb, qB, qk, qc, qo, qg, qv, qr]
  by_cases h2 : (l.length : Int) < 2
  · have e : shapeP l n m = 3 := by rw [shapeP, if_pos (by omega)]
    simp -implicitDefEqProofs only [h2, e, go_sem]
    exact Chg.refl H
  · by_cases h12 : (12 : Int) < (l.length : Int)
    · have e : shapeP l n m = 3 := by rw [shapeP, if_pos (by omega)]
      simp -implicitDefEqProofs only [h2, h12, e, Bool.false_eq_true, go_sem]
      exact Chg.refl H
    · have e0 : shapeP l n m = if (clAt l 0).super ≠ -1 ∨ (clAt l 1).super ≠ -1 ∨ (clAt l 0).fields ≠ 4 ∨ (clAt l 1).fields ≠ 0 then 14 else firstBad l.length (classAt l n m) := by rw [shapeP, if_neg (by omega)]
      have i1 : (1 : Int) < (l.length : Int) := by omega
      have i0 : (0 : Int) < (l.length : Int) := by omega
      obtain ⟨x, o, va, rfl, rfl, ld0, -, -, -, -, hva, -, -, -, hx⟩ := ClE.at h (i := 0) (by omega)
      obtain ⟨x', o', vb, e', -, ld1, -, -, -, -, hvb, -⟩ := ClE.at h (i := 1) (by omega)
      cases e'
      obtain ⟨a1, s1', cl1, rfl, -⟩ := hva.shape
      obtain ⟨a2, s2', cl2, rfl, -⟩ := hvb.shape
      clear hva hvb
      rw [Nat.zero_mul, Nat.add_zero] at ld0
      rw [Nat.one_mul] at ld1
      have ec0 : clAt l 0 = l[0]'(by omega) := clAt_nat (i := 0) (by omega)
      have ec1 : clAt l 1 = l[1]'(by omega) := clAt_nat (i := 1) (by omega)
      have hz : ([.str [], .int .i64 0, .int .i64 0, .slice none 1 0 true] : List AV).length = 4 := rfl
      have sa := Chg.newRow H [.str [], .int .i64 0, .int .i64 0, .slice none 1 0 true]
      have ba := Blk.new H [.str [], .int .i64 0, .int .i64 0, .slice none 1 0 true] hz
      have na : (H.newRow [.str [], .int .i64 0, .int .i64 0, .slice none 1 0 true]).next = H.next + 1 := rfl
      generalize eA : H.newRow [.str [], .int .i64 0, .int .i64 0, .slice none 1 0 true] = Ha at sa ba na
      have sb := Chg.newRow Ha [.str [], .int .i64 0, .int .i64 0, .slice none 1 0 true]
      have bb := Blk.new Ha [.str [], .int .i64 0, .int .i64 0, .slice none 1 0 true] hz
      have nb : (Ha.newRow [.str [], .int .i64 0, .int .i64 0, .slice none 1 0 true]).next = Ha.next + 1 := rfl
      generalize eB : Ha.newRow [.str [], .int .i64 0, .int .i64 0, .slice none 1 0 true] = Hb at sb bb nb
      have ba2 := ba.keep' (H' := Hb) sb.1 (sb.gt (by omega))
      obtain ⟨Hc, q1, q2, q3⟩ := ba2.stores (i := 0) (vs := [.str l[0].name, iv l[0].super, iv l[0].fields, .slice a1 s1' l[0].binds.length cl1]) (by simp)
      have bb2 := bb.keep' (H' := Hc) (by rw [q3.1]; exact Nat.le_refl _) (q3.2 _ (by omega))
      obtain ⟨Hd, p1, p2, p3⟩ := bb2.stores (i := 0) (vs := [.str l[1].name, iv l[1].super, iv l[1].fields, .slice a2 s2' l[1].binds.length cl2]) (by simp)
      have q2' := q2.keep' (H' := Hd) (by rw [p3.1]; exact Nat.le_refl _) (p3.2 _ (by omega))
      have sc : Sm H Hc := (sa.trans sb).ch (by omega) q3
      have sd : Sm H Hd := sc.ch (by omega) p3
      have ld0a := ld0; have ld0b := ld0; have ld0c := ld0; have ld1a := ld1; have ld1b := ld1; have ld1c := ld1
      rw [← sa.ld hx] at ld0a ld1a
      rw [← (sa.trans sb).ld hx] at ld0b ld1b
      rw [← sc.ld hx] at ld0c ld1c
      have f71 := q2'.load (i := 1) (by omega)
      have f72 := q2'.load (i := 2) (by omega)
      have f81 := p2.load (i := 1) (by omega)
      have f82 := p2.load (i := 2) (by omega)
      have u71 : updL (updL (fun _ => .nilFunc) 0 [.str [], .int .i64 0, .int .i64 0, .slice none 1 0 true]) 0 [.str l[0].name, iv l[0].super, iv l[0].fields, .slice a1 s1' l[0].binds.length cl1] 1 = iv l[0].super := rfl
      have u72 : updL (updL (fun _ => .nilFunc) 0 [.str [], .int .i64 0, .int .i64 0, .slice none 1 0 true]) 0 [.str l[0].name, iv l[0].super, iv l[0].fields, .slice a1 s1' l[0].binds.length cl1] 2 = iv l[0].fields := rfl
      have u81 : updL (updL (fun _ => .nilFunc) 0 [.str [], .int .i64 0, .int .i64 0, .slice none 1 0 true]) 0 [.str l[1].name, iv l[1].super, iv l[1].fields, .slice a2 s2' l[1].binds.length cl2] 1 = iv l[1].super := rfl
      have u82 : updL (updL (fun _ => .nilFunc) 0 [.str [], .int .i64 0, .int .i64 0, .slice none 1 0 true]) 0 [.str l[1].name, iv l[1].super, iv l[1].fields, .slice a2 s2' l[1].binds.length cl2] 2 = iv l[1].fields := rfl
      rw [u71] at f71; rw [u72] at f72; rw [u81] at f81; rw [u82] at f82
      rw [ec0, ec1] at e0
      simp only [iv] at ld0 ld0a ld0b ld0c ld1 ld1a ld1b ld1c f71 f72 f81 f82 q1 p1
      rw [na] at p1 f81 f82
      have zi : (0 : Int) ≤ 1 := by omega
      have head : ((l[0].super ≠ -1 ∨ l[1].super ≠ -1 ∨ l[0].fields ≠ 4 ∨ l[1].fields ≠ 0) ∧ shapeP l n m = 14) ∨ ((l[0].super == -1) = true ∧ (l[1].super == -1) = true ∧ (l[0].fields == 4) = true ∧ (l[1].fields == 0) = true ∧ shapeP l n m = firstBad l.length (classAt l n m)) := by
        by_cases hh : l[0].super ≠ -1 ∨ l[1].super ≠ -1 ∨ l[0].fields ≠ 4 ∨ l[1].fields ≠ 0
        · left; exact ⟨hh, by rw [e0, if_pos hh]⟩
        · right
          refine ⟨?_, ?_, ?_, ?_, by rw [e0, if_neg hh]⟩ <;> simp <;> omega
      clear e0
      rcases head with ⟨hh, e0⟩ | ⟨c1, c2, c3, c4, e0⟩
      · by_cases c1 : l[0].super = -1
        · have c1' : (l[0].super != -1) = false := by simp [c1]
          by_cases c2 : l[1].super = -1
          · have c2' : (l[1].super != -1) = false := by simp [c2]
            by_cases c3 : l[0].fields = 4
            · have c3' : (l[0].fields != 4) = false := by simp [c3]
              have c4' : (l[1].fields != 0) = true := by simp; omega
              simp -implicitDefEqProofs only [h2, h12, i0, i1, zi, Int.reduceToNat, ld0, ld0a, ld0b, ld0c, ld1, ld1a, ld1b, ld1c, eA, eB, na, q1, p1, f71, f72, f81, f82, c1', c2', c3', c4', e0, Bool.false_eq_true, go_sem]
              exact sd
            · have c3' : (l[0].fields != 4) = true := by simpa using c3
              simp -implicitDefEqProofs only [h2, h12, i0, i1, zi, Int.reduceToNat, ld0, ld0a, ld0b, ld0c, ld1, ld1a, ld1b, ld1c, eA, eB, na, q1, p1, f71, f72, f81, f82, c1', c2', c3', e0, Bool.false_eq_true, go_sem]
              exact sd
          · have c2' : (l[1].super != -1) = true := by simpa using c2
            simp -implicitDefEqProofs only [h2, h12, i0, i1, zi, Int.reduceToNat, ld0, ld0a, ld0b, ld0c, ld1, ld1a, ld1b, ld1c, eA, eB, na, q1, p1, f71, f72, f81, f82, c1', c2', e0, Bool.false_eq_true, go_sem]
            exact sd
        · have c1' : (l[0].super != -1) = true := by simpa using c1
          simp -implicitDefEqProofs only [h2, h12, i0, i1, zi, Int.reduceToNat, ld0, ld0a, ld0b, ld0c, ld1, ld1a, ld1b, ld1c, eA, eB, na, q1, p1, f71, f72, f81, f82, c1', e0, Bool.false_eq_true, go_sem]
          exact sd
      · have c1' : (l[0].super != -1) = false := by rw [bne, c1]; rfl
        have c2' : (l[1].super != -1) = false := by rw [bne, c2]; rfl
        have c3' : (l[0].fields != 4) = false := by rw [bne, c3]; rfl
        have c4' : (l[1].fields != 0) = false := by rw [bne, c4]; rfl
        simp -implicitDefEqProofs only [h2, h12, i0, i1, zi, Int.reduceToNat, ld0, ld0a, ld0b, ld0c, ld1, ld1a, ld1b, ld1c, eA, eB, na, q1, p1, f71, f72, f81, f82, c1', c2', c3', c4', Bool.false_eq_true, go_sem]
        rw [e0]
        refine WP_loop (fun k fr H' => ∃ i : Nat, k = l.length - i ∧ i ≤ l.length ∧ (∀ j, j < i → classAt l n m j = 0) ∧ fr.get 0 = some (.slice (some (x, o)) 4 l.length cl) ∧ fr.get 1 = some (.int .i64 n) ∧ fr.get 2 = some (.int .i64 m) ∧ fr.get 43 = some (.slice (some (x, o)) 4 l.length cl) ∧ fr.get 44 = some (.int .i64 l.length) ∧ fr.get 45 = some (.int .i64 i) ∧ Sm H H') l.length ?_ ?_
        · refine ⟨0, rfl, by omega, fun j hj => by omega, ?_⟩
          simp -implicitDefEqProofs only [go_sem]
          exact sd
        · clear ld0 ld0a ld0b ld0c ld1 ld1a ld1b ld1c f71 f72 f81 f82 q1 p1 ec0 ec1 u71 u72 u81 u82 c1 c2 c3 c4 c1' c2' c3' c4' q2 q2' p2 ba ba2 bb bb2 e0
          rintro k fr H1 ⟨i, hk, hi, hall, g0, g1, g2, g43, g44, g45, s1⟩
          have i0 : (0 : Int) ≤ i := by omega
          by_cases hlt : i < l.length
          · have hlt' : (i : Int) < (l.length : Int) := by omega
            have hw := wrapS hlt hmax
            have h1 := MonoE.cl.sl _ _ _ _ h s1
            obtain ⟨x', o', vb, e', -, ld, -, -, -, -, hvb, hnm, -, -, -⟩ := ClE.at h1 hlt
            cases e'
            obtain ⟨e1, e2⟩ := h1.pre (k := i) (by omega)
            obtain ⟨H2, q1, q2, s2, r2⟩ := store_new H1 [.str [], .int .i64 0, .int .i64 0, .slice none 1 0 true] [.str l[i].name, iv l[i].super, iv l[i].fields, vb] rfl
            have lf := r2.one (j := 0) rfl
            have lb := r2.one (j := 3) rfl
            rw [Nat.zero_add] at lf lb
            have s12 := s1.trans s2
            have hcl : clAt l i = l[i] := clAt_nat hlt
            have hci := classAt_nat (n := n) (m := m) hlt
            have bad : ∀ e : Int, classAt l n m i = e → e ≠ 0 → firstBad l.length (classAt l n m) = e := fun e h1 h2 => by rw [firstBad_at hall hlt (by rw [h1]; exact h2), h1]
            simp only [iv] at ld q1
            by_cases n1 : l[i].name.length < 1
            · have n1' : (l[i].name.length : Int) < 1 := by omega
              rw [if_pos (by simp only [n1, decide_true, Bool.true_or])] at hci
              simp -implicitDefEqProofs only [g0, g1, g2, g43, g44, g45, i0, hlt', ld, q1, lf, n1', go_sem]
              exact ⟨by rw [bad 13 hci (by omega)], s12⟩
            · have n1' : ¬ (l[i].name.length : Int) < 1 := by omega
              by_cases n16 : 16 < l[i].name.length
              · have n16' : (16 : Int) < (l[i].name.length : Int) := by omega
                rw [if_pos (by simp only [n16, decide_true, Bool.or_true, Bool.true_or])] at hci
                simp -implicitDefEqProofs only [g0, g1, g2, g43, g44, g45, i0, hlt', ld, q1, lf, n1', n16', Bool.false_eq_true, go_sem]
                exact ⟨by rw [bad 13 hci (by omega)], s12⟩
              · have n16' : ¬ (16 : Int) < (l[i].name.length : Int) := by omega
                simp -implicitDefEqProofs only [g0, g1, g2, g43, g44, g45, i0, hlt', ld, q1, lf, n1', n16', e1, Bool.false_eq_true, go_sem]
                refine CW.mono (c_contF (f := 99) (f' := 85) (s := 4) rfl rfl MonoE.cl (MonoE.cl.sl _ _ _ _ e2 s2) (p := fun y => y.name == l[i].name) ?_) ?_
                · rintro j hj r H3 s3 ⟨vj, rfl, -⟩ -
                  exact c_shape1 (by rw [s3.ld (by omega), lf]) (by have := s3.1; omega) rfl
                rintro u H3 ⟨rfl, s3⟩
                have s13 := s12.trans s3
                cases hany : (l.take i).any fun y => y.name == l[i].name with
                | true =>
                  rw [if_pos (by simp only [hany, Bool.or_true])] at hci
                  simp -implicitDefEqProofs only [g0, g1, g2, go_sem]
                  exact ⟨by rw [bad 13 hci (by omega)], s13⟩
                | false =>
                  rw [if_neg (by simp only [n1, n16, hany, decide_false, Bool.or_self, Bool.false_eq_true, not_false_eq_true])] at hci
                  simp -implicitDefEqProofs only [g0, g1, g2, g43, g44, g45, Bool.false_eq_true, go_sem]
                  refine CW.mono (c_super (MonoE.cl.sl _ _ _ _ h s13) hlt) ?_
                  rintro u H4 ⟨rfl, s4⟩
                  have s14 := s13.trans s4
                  cases hsp : superP l i with
                  | false =>
                    rw [if_pos hsp] at hci
                    simp -implicitDefEqProofs only [g0, g1, g2, go_sem]
                    exact ⟨by rw [bad 14 hci (by omega)], s14⟩
                  | true =>
                    rw [if_neg (by rw [hsp]; simp)] at hci
                    have lb' : loadA H4 H1.next 3 1 = some [vb] := by rw [(s3.trans s4).ld (by omega), lb]
                    simp -implicitDefEqProofs only [g0, g1, g2, g43, g44, g45, lb', Bool.false_eq_true, go_sem]
                    refine CW.mono (c_binds (n := n) (m := m) (MonoE.enc.sl _ _ _ _ hvb ((s2.trans s3).trans s4))) ?_
                    rintro u H5 ⟨rfl, s5⟩
                    cases hbp : bindsP l[i].binds n m with
                    | false =>
                      rw [if_pos hbp] at hci
                      simp -implicitDefEqProofs only [g0, g1, g2, go_sem]
                      exact ⟨by rw [bad 15 hci (by omega)], s14.trans s5⟩
                    | true =>
                      rw [if_neg (by rw [hbp]; simp)] at hci
                      simp -implicitDefEqProofs only [g0, g1, g2, g43, g44, g45, hw, Bool.false_eq_true, go_sem]
                      refine ⟨l.length - (i + 1), by omega, i + 1, rfl, by omega, fun j hj => ?_, rfl, s14.trans s5⟩
                      by_cases e : j = i
                      · subst e; exact hci
                      · exact hall j (by omega)
          · have hlt' : ¬ (i : Int) < (l.length : Int) := by omega
            have hno := firstBad_no (n := l.length) (f := classAt l n m) fun j hj => hall j (by omega)
            simp -implicitDefEqProofs only [g0, g1, g2, g43, g44, g45, hlt', hno, Bool.false_eq_true, go_sem]
            exact s1
set_option maxHeartbeats 2000000
abbrev DG := Nat → Option Int
def slotN (s p : Nat) : Nat := (s % 16 * 7 + p) % 16
def fitS (d : DG) (s : Int) (i : Nat) : Bool := match d i with
  | none => true
  | some x => x == s
def putD (d : DG) (s : Int) : Option DG := if s < 0 then none else match (List.range 4).find? (fun p => fitS d s (slotN s.toNat p)) with
  | some p => some fun j => if j = slotN s.toNat p then some s else d j
  | none => none
theorem slotN_lt (s p : Nat) : slotN s p < 16 := Nat.mod_lt _ (by omega)
theorem putD_at {d : DG} {s : Nat} {p : Nat} (hp : p < 4) (h : fitS d (s : Int) (slotN s p) = true) (hn : ∀ j, j < p → fitS d (s : Int) (slotN s j) = false) : putD d (s : Int) = some fun j => if j = slotN s p then some (s : Int) else d j := by
  have : (List.range 4).find? (fun p => fitS d (s : Int) (slotN s p)) = some p := by
    rw [List.find?_eq_some_iff_append]
    refine ⟨h, List.range p, (List.range 4).drop (p + 1), ?_, fun j hj => by rw [hn j (List.mem_range.1 hj)]; rfl⟩
    have e1 : (List.range 4) = (List.range 4).take p ++ (List.range 4)[p]'(by simpa using hp) :: (List.range 4).drop (p + 1) := by
      rw [← List.drop_eq_getElem_cons, List.take_append_drop]
    rw [List.getElem_range, List.take_range, Nat.min_eq_left (by omega)] at e1
    exact e1
  unfold putD
  rw [if_neg (by omega), Int.toNat_natCast, this]
theorem putD_no {d : DG} {s : Nat} (hn : ∀ j, j < 4 → fitS d (s : Int) (slotN s j) = false) : putD d (s : Int) = none := by
  have : (List.range 4).find? (fun p => fitS d (s : Int) (slotN s p)) = none := List.find?_eq_none.2 fun j hj => by rw [hn j (List.mem_range.1 hj)]; simp
  unfold putD
  rw [if_neg (by omega), Int.toNat_natCast, this]
def dictA : DG → List Pr2 → Bool
  | _, [] => true
  | d, b :: l => match putD d b.1 with
    | some d' => dictA d' l
    | none => false
def dictP (l : List Pr2) : Bool := dictA (fun _ => none) l
def dictN : DG → List Pr2 → Option DG
  | d, [] => some d
  | d, b :: l => match putD d b.1 with
    | some d' => dictN d' l
    | none => none
theorem dictN_snoc : ∀ (l : List Pr2) (d : DG) (b : Pr2), dictN d (l ++ [b]) = match dictN d l with
    | some d' => putD d' b.1
    | none => none
  | [], d, b => by
    simp only [List.nil_append, dictN]
    cases putD d b.1 <;> rfl
  | c :: l, d, b => by
    simp only [List.cons_append, dictN]
    cases putD d c.1 with
    | none => rfl
    | some d' => exact dictN_snoc l d' b
theorem dictA_N : ∀ (l : List Pr2) (d : DG), dictA d l = (dictN d l).isSome
  | [], d => rfl
  | b :: l, d => by
    simp only [dictA, dictN]
    cases putD d b.1 with
    | none => rfl
    | some d' => exact dictA_N l d'
theorem dictN_bad : ∀ (l l' : List Pr2) (d : DG), dictN d l = none → dictN d (l ++ l') = none
  | [], l', d, h => by cases h
  | b :: l, l', d, h => by
    simp only [List.cons_append, dictN] at h ⊢
    cases hp : putD d b.1 with
    | none => rfl
    | some d' => rw [hp] at h; exact dictN_bad l l' d' h
theorem c_dAt {H : AHeap} {s p : Nat} (hs : (s : Int) ≤ 9223372036854775807) (hp : p < 4) : CW MN 117 [.int .i64 (s : Int), .int .i64 (p : Int)] H fun u H' => u = .int .i64 (slotN s p : Nat) ∧ H' = H := by
  refine CW_of (fn := af117) rfl ?_
  dsimp only [af117, qm, q, qG, qn, qi, qb, qB, qk, qc, qo, qg, qv, qr]
  have m1 : (s : Int).tmod 16 = ((s % 16 : Nat) : Int) := by rw [Int.tmod_eq_emod_of_nonneg (by omega)]; rfl
  have hlt := Nat.mod_lt s (y := 16) (by omega)
  have w1 : IntKind.i64.wrap (((s % 16 : Nat) : Int) * 7) = ((s % 16 * 7 : Nat) : Int) := by rw [wrap64 (by omega) (by omega)]; omega
  have w2 : IntKind.i64.wrap (((s % 16 * 7 : Nat) : Int) + (p : Int)) = ((s % 16 * 7 + p : Nat) : Int) := by rw [wrap64 (by omega) (by omega)]; omega
  have m2 : ((s % 16 * 7 + p : Nat) : Int).tmod 16 = (((s % 16 * 7 + p) % 16 : Nat) : Int) := by rw [Int.tmod_eq_emod_of_nonneg (by omega)]; rfl
  simp -implicitDefEqProofs only [m1, w1, w2, m2, slotN, go_sem]
def DicR (H : AHeap) (b : Nat) (d : DG) : Prop := ∃ f : Nat → AV, Blk H b 49 f ∧ (∀ i, i < 16 → match d i with
  | none => f (i * 3) = .bool false
  | some s => f (i * 3) = .bool true ∧ f (i * 3 + 1) = .int .i64 s) ∧ ∃ n, f 48 = .int .i64 n
theorem DicR.keep {H H' : AHeap} {b : Nat} {d : DG} (h : DicR H b d) (hl : H.next ≤ H'.next) (hg : H'.get b = H.get b) : DicR H' b d := by
  obtain ⟨f, hb, h1, h2⟩ := h
  exact ⟨f, hb.keep' hl hg, h1, h2⟩
theorem c_dNew (H : AHeap) : CW MN 103 [] H fun u H' => u = .ptr (some (H.next, 0)) ∧ Sm H H' ∧ DicR H' H.next (fun _ => none) := by
  refine CW_of (fn := af103) rfl ?_
  dsimp only [af103, qm, q, qG, qn, qi, qb, qB, qk, qc, qo, qg, qv, qr]
  have s1 := Chg.newRow H ((List.replicate 16 ([.bool false, .int .i64 0, .int .i64 0] : List AV)).flatten ++ [.int .i64 0])
  have b1 := Blk.new H ((List.replicate 16 ([.bool false, .int .i64 0, .int .i64 0] : List AV)).flatten ++ [.int .i64 0]) (n := 49) rfl
  simp -implicitDefEqProofs only [go_sem]
  refine ⟨s1, _, b1, fun i hi => ?_, 0, rfl⟩
  dsimp only
  have : ∀ i, i < 16 → ((List.replicate 16 ([.bool false, .int .i64 0, .int .i64 0] : List AV)).flatten ++ [.int .i64 0])[i * 3]? = some (.bool false) := fun i hi => by
    rcases (show i = 0 ∨ i = 1 ∨ i = 2 ∨ i = 3 ∨ i = 4 ∨ i = 5 ∨ i = 6 ∨ i = 7 ∨ i = 8 ∨ i = 9 ∨ i = 10 ∨ i = 11 ∨ i = 12 ∨ i = 13 ∨ i = 14 ∨ i = 15 by omega) with rfl | rfl | rfl | rfl | rfl | rfl | rfl | rfl | rfl | rfl | rfl | rfl | rfl | rfl | rfl | rfl <;> rfl
  unfold updL
  rw [if_pos (Nat.zero_le _), Nat.sub_zero, this i hi]
theorem c_dPut {H : AHeap} {b : Nat} {d : DG} (h : DicR H b d) {s m : Int} (hs : I64 s) : CW MN 104 [.ptr (some (b, 0)), .int .i64 s, .int .i64 m] H fun u H' => u = .bool (putD d s).isSome ∧ Ch b H H' ∧ ∀ d', putD d s = some d' → DicR H' b d' := by
  refine CW_of (fn := af104) rfl ?_
  dsimp only [af104, qm, q, qG, qn, qi, qb, qB, qk, qc, qo, qg, qv, qr]
  obtain ⟨f, hb, hf, n, h48⟩ := h
  have hs2 := hs.2
  by_cases hneg : (0 : Int) ≤ s
  · obtain ⟨k, rfl⟩ : ∃ k : Nat, s = k := ⟨s.toNat, by omega⟩
    simp -implicitDefEqProofs only [go_sem]
    refine WP_loop (fun r fr H' => ∃ p : Nat, r = 4 - p ∧ p ≤ 4 ∧ (∀ j, j < p → fitS d (k : Int) (slotN k j) = false) ∧ fr.get 0 = some (.ptr (some (b, 0))) ∧ fr.get 1 = some (.int .i64 (k : Int)) ∧ fr.get 2 = some (.int .i64 m) ∧ fr.get 7 = some (.int .i64 p) ∧ H' = H) 4 ?_ ?_
    · refine ⟨0, rfl, by omega, fun j hj => by omega, ?_⟩
      simp -implicitDefEqProofs only [go_sem]
    · rintro r fr H1 ⟨p, hr, hp, hno, g0, g1, g2, g7, rfl⟩
      by_cases hp4 : p < 4
      · have hp4' : (p : Int) < 4 := by omega
        have hw : IntKind.i64.wrap ((p : Int) + 1) = ((p + 1 : Nat) : Int) := by rw [wrap64 (by omega) (by omega)]; omega
        simp -implicitDefEqProofs only [g0, g1, g2, g7, hneg, hp4', go_sem]
        refine CW.mono (c_dAt hs2 hp4) ?_
        rintro u H1 ⟨rfl, rfl⟩
        have hsl := slotN_lt k p
        have s0 : (0 : Int) ≤ (slotN k p : Int) := by omega
        have s16 : (slotN k p : Int) < 16 := by omega
        have hfi := hf (slotN k p) hsl
        have l0 := hb.load (i := slotN k p * 3) (by omega)
        have l1 := hb.load (i := slotN k p * 3 + 1) (by omega)
        have l48 := hb.load (i := 48) (by omega)
        rw [h48] at l48
        have put : ∀ (H2 : AHeap) (f2 : Nat → AV) (z : Int), Blk H2 b 49 f2 → (∀ i, i < 48 → f2 i = f i) → f2 48 = .int .i64 z → ∃ H3, storeA H2 b (slotN k p * 3) [.bool true, .int .i64 (k : Int), .int .i64 m] = some H3 ∧ Ch b H2 H3 ∧ DicR H3 b fun j => if j = slotN k p then some (k : Int) else d j := fun H2 f2 z hb2 hf2 hz => by
          obtain ⟨H3, q1, q2, q3⟩ := hb2.stores (i := slotN k p * 3) (vs := [.bool true, .int .i64 (k : Int), .int .i64 m]) (by simp; omega)
          refine ⟨H3, q1, q3, _, q2, fun i hi => ?_, z, ?_⟩
          · by_cases e : i = slotN k p
            · subst e
              have e1 : slotN k p * 3 ≤ slotN k p * 3 + 1 := by omega
              simp only [if_true, updL, Nat.le_refl, Nat.sub_self, e1, Nat.add_sub_cancel_left]
              exact ⟨rfl, rfl⟩
            · have e1 : updL f2 (slotN k p * 3) [.bool true, .int .i64 (k : Int), .int .i64 m] (i * 3) = f (i * 3) := by
                unfold updL
                split
                · rw [List.getElem?_eq_none (by simp; omega)]
                  exact hf2 _ (by omega)
                · exact hf2 _ (by omega)
              have e2 : updL f2 (slotN k p * 3) [.bool true, .int .i64 (k : Int), .int .i64 m] (i * 3 + 1) = f (i * 3 + 1) := by
                unfold updL
                split
                · rw [List.getElem?_eq_none (by simp; omega)]
                  exact hf2 _ (by omega)
                · exact hf2 _ (by omega)
              dsimp only
              rw [if_neg e]
              have := hf i hi
              cases hd : d i with
              | none => rw [hd] at this; dsimp only at this ⊢; rw [e1]; exact this
              | some x => rw [hd] at this; dsimp only at this ⊢; rw [e1, e2]; exact this
          · unfold updL
            rw [if_pos (by omega), List.getElem?_eq_none (by simp; omega)]
            exact hz
        cases hd : d (slotN k p) with
        | none =>
          rw [hd] at hfi
          dsimp only at hfi
          rw [hfi] at l0
          have hpd := putD_at hp4 (by simp [fitS, hd]) hno
          obtain ⟨H2, q1, q2, q3, q4⟩ := hb.store (i := 48) (by omega) (.int .i64 (IntKind.i64.wrap (n + 1)))
          obtain ⟨H3, p1, p2, p3⟩ := put H2 _ _ q2 (fun i hi => upd_ne (by omega)) upd_same
          simp -implicitDefEqProofs only [g0, g1, g2, g7, s0, s16, l0, l48, q1, p1, Bool.false_eq_true, go_sem]
          rw [hpd]
          refine ⟨rfl, Ch.trans ⟨q3, q4⟩ p2, ?_⟩
          rintro d' ⟨⟩
          exact p3
        | some x =>
          rw [hd] at hfi
          obtain ⟨e0, e1⟩ := hfi
          rw [e0] at l0
          rw [e1] at l1
          by_cases hx : x = k
          · subst hx
            have hpd := putD_at hp4 (by simp [fitS, hd]) hno
            obtain ⟨H3, p1, p2, p3⟩ := put H1 f n hb (fun i hi => rfl) h48
            simp -implicitDefEqProofs only [g0, g1, g2, g7, s0, s16, l0, l1, p1, bne_self_eq_false, Bool.false_eq_true, go_sem]
            rw [hpd]
            refine ⟨rfl, p2, ?_⟩
            rintro d' ⟨⟩
            exact p3
          · have hx' : (x != (k : Int)) = true := by simpa using hx
            simp -implicitDefEqProofs only [g0, g1, g2, g7, s0, s16, l0, l1, hx', hw, Bool.false_eq_true, go_sem]
            refine ⟨4 - (p + 1), by omega, p + 1, rfl, by omega, fun j hj => ?_, rfl⟩
            by_cases e : j = p
            · subst e; simp [fitS, hd, hx]
            · exact hno j (by omega)
      · have hp4' : ¬ (p : Int) < 4 := by omega
        have hpd := putD_no fun j hj => hno j (by omega)
        simp -implicitDefEqProofs only [g0, g1, g2, g7, hneg, hp4', hpd, Bool.false_eq_true, Option.isSome_none, go_sem]
        exact ⟨⟨rfl, fun _ _ => rfl⟩, by simp⟩
  · have hpd : putD d s = none := by rw [putD, if_pos (by omega)]
    simp -implicitDefEqProofs only [go_sem]
    refine WP_loop (fun r fr H' => fr.get 1 = some (.int .i64 s) ∧ H' = H) 0 ?_ ?_
    · simp -implicitDefEqProofs only [go_sem]
    · rintro r fr H1 ⟨g1, rfl⟩
      simp -implicitDefEqProofs only [g1, hneg, hpd, Bool.false_eq_true, Option.isSome_none, go_sem]
      exact ⟨⟨rfl, fun _ _ => rfl⟩, by simp⟩
theorem c_dOf {H : AHeap} {l : List Pr2} {v : AV} (h : SlE PrE 2 H l [v]) : CW MN 89 [v] H fun u H' => (∃ p, u = .tuple [p, .bool (dictP l)]) ∧ Sm H H' := by
  refine CW_of (fn := af89) rfl ?_
  obtain ⟨a, s0, cl, rfl, -⟩ := h.shape
  have hmax := h.max
  dsimp only [af89, qm, q, qG, qn, qi, qb, qB, qk, qc, qo, qg, qv, qr]
  simp -implicitDefEqProofs only [go_sem]
  refine CW.mono (c_dNew H) ?_
  rintro u H1 ⟨rfl, s1, d1⟩
  have hb1 : H.next < H1.next := by obtain ⟨f, hb, -⟩ := d1; exact hb.1
  simp -implicitDefEqProofs only [go_sem]
  refine WP_loop (fun k fr H' => ∃ (i : Nat) (d : DG), k = l.length - i ∧ i ≤ l.length ∧ dictN (fun _ => none) (l.take i) = some d ∧ fr.get 4 = some (.ptr (some (H.next, 0))) ∧ fr.get 8 = some (.slice a s0 l.length cl) ∧ fr.get 9 = some (.int .i64 l.length) ∧ fr.get 10 = some (.int .i64 i) ∧ Sm H H' ∧ DicR H' H.next d ∧ H.next < H'.next) l.length ?_ ?_
  · refine ⟨0, fun _ => none, rfl, by omega, rfl, ?_⟩
    simp -implicitDefEqProofs only [go_sem]
    exact ⟨s1, d1, hb1⟩
  · rintro k fr H2 ⟨i, d, hk, hi, hdn, g4, g8, g9, g10, s2, d2, hb2⟩
    have i0 : (0 : Int) ≤ i := by omega
    by_cases hlt : i < l.length
    · have hlt' : (i : Int) < (l.length : Int) := by omega
      have hw := wrapS hlt hmax
      have h1 := MonoE.enc.sl _ _ _ _ h s2
      obtain ⟨x, o, rfl, rfl, ld, -, -, p64, -, hx⟩ := PrE.at h1 hlt
      obtain ⟨H3, q1, q2, s3, r3⟩ := store_new H2 [.int .i64 0, .int .i64 0] [.int .i64 l[i].1, .int .i64 l[i].2] rfl
      have lf := r3.one (j := 0) rfl
      have lg := r3.one (j := 1) rfl
      rw [Nat.zero_add] at lf lg
      have d3 := d2.keep s3.1 (s3.gt hb2)
      have hsn := dictN_snoc (l.take i) (fun _ => none) l[i]
      rw [← take_snoc hlt, hdn] at hsn
      dsimp only at hsn
      have hfull : dictN (fun _ => none) (l.take (i + 1)) = none → dictP l = false := fun e => by
        unfold dictP
        rw [dictA_N, ← List.take_append_drop (i + 1) l, dictN_bad _ _ _ e]; rfl
      generalize l[i] = p at ld q1 lf lg hsn p64
      simp -implicitDefEqProofs only [g4, g8, g9, g10, i0, hlt', ld, q1, lf, lg, go_sem]
      refine CW.mono (c_dPut d3 (m := p.2) p64) ?_
      rintro u H4 ⟨rfl, ch, hd'⟩
      have s4 : Sm H H4 := (s2.trans s3).ch (by omega) ch
      cases hp : putD d p.1 with
      | none =>
        rw [hp] at hsn
        simp -implicitDefEqProofs only [g4, Option.isSome_none, go_sem]
        exact ⟨⟨_, by rw [hfull hsn]⟩, s4⟩
      | some d' =>
        rw [hp] at hsn
        simp -implicitDefEqProofs only [g4, g8, g9, g10, hw, Option.isSome_some, Bool.false_eq_true, go_sem]
        exact ⟨l.length - (i + 1), by omega, i + 1, d', rfl, by omega, hsn, rfl, s4, hd' d' hp, by rw [ch.1]; omega⟩
    · have hlt' : ¬ (i : Int) < (l.length : Int) := by omega
      have e : dictP l = true := by
        unfold dictP
        rw [List.take_of_length_le (by omega)] at hdn
        rw [dictA_N, hdn]; rfl
      simp -implicitDefEqProofs only [g4, g8, g9, g10, hlt', e, Bool.false_eq_true, go_sem]
      exact ⟨⟨_, rfl⟩, s2⟩
set_option maxHeartbeats 2000000
set_option maxHeartbeats 4000000
theorem ByE.at {H : AHeap} {l : List Nat} {a : Option (Nat × Nat)} {s0 n : Nat} {cl : Bool} (h : SlE ByE 1 H l [.slice a s0 n cl]) {i : Nat} (hi : i < l.length) : ∃ x o, a = some (x, o) ∧ s0 = 1 ∧ loadA H x (o + i) 1 = some [.int .u8 (l[i] : Int)] ∧ l[i] < 256 ∧ x < H.next := by
  obtain ⟨x, o, r, rfl, rfl, ld, hl, ⟨rfl, h1⟩, hr⟩ := h.at hi
  rw [Nat.mul_one] at ld
  exact ⟨x, o, rfl, rfl, ld, h1, hr.1⟩
structure BoxM (H : AHeap) (m : UMethod) (cs : List AV) (b : Nat) (vl vc : AV) : Prop where
  e : cs = [.int .i64 m.args, .int .i64 m.temps, vl, vc]
  lt : b < H.next
  all : loadA H b 0 4 = some [.int .i64 m.args, .int .i64 m.temps, vl, vc]
  l0 : loadA H b 0 1 = some [.int .i64 m.args]
  l1 : loadA H b 1 1 = some [.int .i64 m.temps]
  l2 : loadA H b 2 1 = some [vl]
  l3 : loadA H b 3 1 = some [vc]
  lits : SlE PrE 2 H m.lits [vl]
  code : SlE ByE 1 H m.code [vc]
  me : MeE H m [.int .i64 m.args, .int .i64 m.temps, vl, vc]
theorem BoxM.sm {H H' : AHeap} {m : UMethod} {cs : List AV} {b : Nat} {vl vc : AV} (h : BoxM H m cs b vl vc) (s : Sm H H') : BoxM H' m cs b vl vc :=
  ⟨h.e, Nat.lt_of_lt_of_le h.lt s.1, by rw [s.ld h.lt, h.all], by rw [s.ld h.lt, h.l0], by rw [s.ld h.lt, h.l1], by rw [s.ld h.lt, h.l2], by rw [s.ld h.lt, h.l3], MonoE.enc.sl _ _ _ _ h.lits s, MonoE.enc.sl _ _ _ _ h.code s, MonoE.me _ _ _ _ h.me s⟩
theorem BoxM.of {H : AHeap} {m : UMethod} {cs : List AV} (h : MeE H m cs) : ∃ vl vc, BoxM (H.newRow cs) m cs H.next vl vc ∧ cs = [.int .i64 m.args, .int .i64 m.temps, vl, vc] := by
  obtain ⟨vl, vc, rfl, h1, h2, h3, h4⟩ := h
  have s := Chg.newRow H [iv m.args, iv m.temps, vl, vc]
  have r := Rd.newRow H [iv m.args, iv m.temps, vl, vc]
  have r0 := r.one (j := 0) rfl
  have r1 := r.one (j := 1) rfl
  have r2 := r.one (j := 2) rfl
  have r3 := r.one (j := 3) rfl
  rw [Nat.zero_add] at r0 r1 r2 r3
  exact ⟨vl, vc, ⟨rfl, r.1, r.load rfl, r0, r1, r2, r3, MonoE.enc.sl _ _ _ _ h3 s, MonoE.enc.sl _ _ _ _ h4 s, vl, vc, rfl, h1, h2, MonoE.enc.sl _ _ _ _ h3 s, MonoE.enc.sl _ _ _ _ h4 s⟩, rfl⟩
structure BoxU (H : AHeap) (u : UUnit) (b : Nat) (v1 v2 v3 v4 : AV) : Prop where
  lt : b < H.next
  all : loadA H b 0 5 = some [v1, v2, v3, v4, .int .i64 u.main]
  l0 : loadA H b 0 1 = some [v1]
  l1 : loadA H b 1 1 = some [v2]
  l2 : loadA H b 2 1 = some [v3]
  l3 : loadA H b 3 1 = some [v4]
  l4 : loadA H b 4 1 = some [.int .i64 u.main]
  names : SlE StE 1 H u.names [v1]
  classes : SlE ClE 4 H u.classes [v2]
  methods : SlE MeE 4 H u.methods [v3]
  objects : SlE ObE 2 H u.objects [v4]
  un : UnE H u [v1, v2, v3, v4, .int .i64 u.main]
theorem BoxU.sm {H H' : AHeap} {u : UUnit} {b : Nat} {v1 v2 v3 v4 : AV} (h : BoxU H u b v1 v2 v3 v4) (s : Sm H H') : BoxU H' u b v1 v2 v3 v4 :=
  ⟨Nat.lt_of_lt_of_le h.lt s.1, by rw [s.ld h.lt, h.all], by rw [s.ld h.lt, h.l0], by rw [s.ld h.lt, h.l1], by rw [s.ld h.lt, h.l2], by rw [s.ld h.lt, h.l3], by rw [s.ld h.lt, h.l4], MonoE.enc.sl _ _ _ _ h.names s, MonoE.cl.sl _ _ _ _ h.classes s, MonoE.me.sl _ _ _ _ h.methods s, MonoE.ob.sl _ _ _ _ h.objects s, MonoE.un _ _ _ _ h.un s⟩
theorem BoxU.of {H : AHeap} {u : UUnit} {cs : List AV} (h : UnE H u cs) : ∃ v1 v2 v3 v4, BoxU (H.newRow cs) u H.next v1 v2 v3 v4 ∧ cs = [v1, v2, v3, v4, .int .i64 u.main] := by
  obtain ⟨v1, v2, v3, v4, rfl, h0, h1, h2, h3, h4⟩ := h
  have s := Chg.newRow H [v1, v2, v3, v4, iv u.main]
  have r := Rd.newRow H [v1, v2, v3, v4, iv u.main]
  have r0 := r.one (j := 0) rfl
  have r1 := r.one (j := 1) rfl
  have r2 := r.one (j := 2) rfl
  have r3 := r.one (j := 3) rfl
  have r4 := r.one (j := 4) rfl
  rw [Nat.zero_add] at r0 r1 r2 r3 r4
  have q1 := MonoE.enc.sl _ _ _ _ h1 s
  have q2 := MonoE.cl.sl _ _ _ _ h2 s
  have q3 := MonoE.me.sl _ _ _ _ h3 s
  have q4 := MonoE.ob.sl _ _ _ _ h4 s
  exact ⟨v1, v2, v3, v4, ⟨r.1, r.load rfl, r0, r1, r2, r3, r4, q1, q2, q3, q4, v1, v2, v3, v4, rfl, h0, q1, q2, q3, q4⟩, rfl⟩
def litAt (m : UMethod) (i : Nat) (k : Int) : Bool := decide (i < m.lits.length) && (m.lits.getD i (0, 0)).1 == k
theorem litAt_yes {m : UMethod} {i : Nat} {k : Int} (h : i < m.lits.length) : litAt m i k = (m.lits[i].1 == k) := by
  have : m.lits.getD i (0, 0) = m.lits[i] := by rw [List.getD_eq_getElem?_getD, List.getElem?_eq_getElem h]; rfl
  simp [litAt, h]
theorem litAt_no {m : UMethod} {i : Nat} {k : Int} (h : ¬ i < m.lits.length) : litAt m i k = false := by simp [litAt, h]
theorem c_literal {H : AHeap} {m : UMethod} {cs : List AV} (h : MeE H m cs) (i : Nat) (k : Int) : CW MN 118 [.agg cs, .int .i64 (i : Int), .int .i64 k] H fun u H' => u = .bool (litAt m i k) ∧ Sm H H' := by
  refine CW_of (fn := af118) rfl ?_
  dsimp only [af118, qm, q, qG, qn, qi, qb, qB, qk, qc, qo, qg, qv, qr]
  obtain ⟨vl, vc, bm, rfl⟩ := BoxM.of h
  have s1 := Chg.newRow H [.int .i64 m.args, .int .i64 m.temps, vl, vc]
  generalize eH1 : H.newRow [.int .i64 m.args, .int .i64 m.temps, vl, vc] = H1 at bm s1
  obtain ⟨a, s0, cl, rfl, -⟩ := bm.lits.shape
  have i0 : (0 : Int) ≤ (i : Int) := by omega
  have l2 := bm.l2
  by_cases hi : i < m.lits.length
  · have hi' : (i : Int) < (m.lits.length : Int) := by omega
    obtain ⟨x, o, rfl, rfl, -, ld, -⟩ := PrE.at bm.lits hi
    rw [litAt_yes hi]
    simp -implicitDefEqProofs only [eH1, l2, i0, hi', ld, go_sem]
    exact s1
  · have hi' : ¬ (i : Int) < (m.lits.length : Int) := by omega
    rw [litAt_no hi]
    simp -implicitDefEqProofs only [eH1, l2, hi', Bool.false_eq_true, go_sem]
    exact s1
theorem ne_int {k n : Nat} (h : k ≠ n) : ((k : Int) == (n : Int)) = false := by simp; omega
theorem c_takes {H : AHeap} (k : Nat) : CW MN 119 [.int .i64 (k : Int)] H fun u H' => (∃ n, u = .int .i64 n ∧ (0 ≤ n ↔ k ≤ 23)) ∧ H' = H := by
  refine CW_of (fn := af119) rfl ?_
  dsimp only [af119, qm, q, qG, qn, qi, qb, qB, qk, qc, qo, qg, qv, qr]
  by_cases h : k ≤ 23
  · rcases (show k = 0 ∨ k = 1 ∨ k = 2 ∨ k = 3 ∨ k = 4 ∨ k = 5 ∨ k = 6 ∨ k = 7 ∨ k = 8 ∨ k = 9 ∨ k = 10 ∨ k = 11 ∨ k = 12 ∨ k = 13 ∨ k = 14 ∨ k = 15 ∨ k = 16 ∨ k = 17 ∨ k = 18 ∨ k = 19 ∨ k = 20 ∨ k = 21 ∨ k = 22 ∨ k = 23 by omega) with rfl | rfl | rfl | rfl | rfl | rfl | rfl | rfl | rfl | rfl | rfl | rfl | rfl | rfl | rfl | rfl | rfl | rfl | rfl | rfl | rfl | rfl | rfl | rfl <;>
    (simp -implicitDefEqProofs only [Int.reduceBEq, Bool.false_eq_true, go_sem]
     exact ⟨_, rfl, by simp⟩)
  · have q : ∀ n : Nat, n ≤ 23 → ((k : Int) == (n : Int)) = false := fun n hn => ne_int (by omega)
    have q0 := q 0 (by omega); have q1 := q 1 (by omega); have q2 := q 2 (by omega); have q3 := q 3 (by omega); have q4 := q 4 (by omega); have q5 := q 5 (by omega); have q6 := q 6 (by omega); have q7 := q 7 (by omega); have q8 := q 8 (by omega); have q9 := q 9 (by omega); have q10 := q 10 (by omega); have q11 := q 11 (by omega); have q12 := q 12 (by omega); have q13 := q 13 (by omega); have q14 := q 14 (by omega); have q15 := q 15 (by omega); have q16 := q 16 (by omega); have q17 := q 17 (by omega); have q18 := q 18 (by omega); have q19 := q 19 (by omega); have q20 := q 20 (by omega); have q21 := q 21 (by omega); have q22 := q 22 (by omega); have q23 := q 23 (by omega)
    simp -implicitDefEqProofs only [Int.cast_ofNat_Int] at q0 q1 q2 q3 q4 q5 q6 q7 q8 q9 q10 q11 q12 q13 q14 q15 q16 q17 q18 q19 q20 q21 q22 q23
    simp -implicitDefEqProofs only [q0, q1, q2, q3, q4, q5, q6, q7, q8, q9, q10, q11, q12, q13, q14, q15, q16, q17, q18, q19, q20, q21, q22, q23, Bool.false_eq_true, go_sem]
    exact ⟨_, rfl, by simp; omega⟩
set_option maxHeartbeats 4000000
theorem conv8 {n : Nat} (h : n < 256) : IntKind.i64.wrap (n : Int) = (n : Int) := wrap64 (by omega) (by omega)
theorem cI {k j : IntKind} {n : Int} {G : AHeap} : convA (.int k) (.int j n) G = some (.int k (k.wrap n), G) := rfl
theorem c_fetch {H : AHeap} {m : UMethod} {cs : List AV} (h : MeE H m cs) (pc : Nat) (hp : pc % 2 = 0) (hl : pc + 1 < m.code.length) (h2 : m.code.length ≤ 1000) : CW MN 109 [.agg cs, .int .i64 (pc : Int)] H fun u H' => u = .tuple [.agg [.int .i64 (m.code[pc] : Int), .int .i64 (m.code[pc + 1] : Int)], .bool true] ∧ Sm H H' := by
  refine CW_of (fn := af109) rfl ?_
  dsimp only [af109, qm, q, qG, qn, qi, qb, qB, qk, qc, qo, qg, qv, qr]
  obtain ⟨wl, wc, bm, rfl⟩ := BoxM.of h
  have s1 := Chg.newRow H [.int .i64 m.args, .int .i64 m.temps, wl, wc]
  generalize eH1 : H.newRow [.int .i64 m.args, .int .i64 m.temps, wl, wc] = H1 at bm s1
  obtain ⟨a, s0, cl, rfl, -⟩ := bm.code.shape
  have hb1 := bm.lt
  have s2 := Chg.newRow H1 [.int .i64 0, .int .i64 0]
  have b2 := Blk.new H1 [.int .i64 0, .int .i64 0] (n := 2) rfl
  have hn2 : (H1.newRow [.int .i64 0, .int .i64 0]).next = H1.next + 1 := rfl
  generalize eH2 : H1.newRow [.int .i64 0, .int .i64 0] = H2 at s2 b2 hn2
  have bm2 := bm.sm s2
  have l3 := bm2.l3
  obtain ⟨x, o, rfl, rfl, ld, hy, hx⟩ := ByE.at bm2.code (i := pc) (by omega)
  obtain ⟨x', o', e, -, ld', hy', -⟩ := ByE.at bm2.code hl
  cases e
  have p0 : (0 : Int) ≤ (pc : Int) := by omega
  have p1 : (pc : Int) < (m.code.length : Int) := by omega
  have p0n : ¬ (pc : Int) < 0 := by omega
  have pm : (((pc : Int).tmod 2) != 0) = false := by
    rw [Int.tmod_eq_emod_of_nonneg (by omega)]; simp; omega
  have w1 : IntKind.i64.wrap ((m.code.length : Int) - 1) = (m.code.length : Int) - 1 := wrap64 (by omega) (by omega)
  have pg : ¬ ((m.code.length : Int) - 1 ≤ (pc : Int)) := by omega
  have w2 : IntKind.i64.wrap ((pc : Int) + 1) = ((pc + 1 : Nat) : Int) := by rw [wrap64 (by omega) (by omega)]; omega
  have q0 : (0 : Int) ≤ ((pc + 1 : Nat) : Int) := by omega
  have q1 : ((pc + 1 : Nat) : Int) < (m.code.length : Int) := by omega
  have w3 := conv8 hy
  have w4 := conv8 hy'
  obtain ⟨H3, e1, e2, e3⟩ := b2.stores (i := 0) (vs := [.int .i64 (m.code[pc] : Int), .int .i64 (m.code[pc + 1] : Int)]) (by simp)
  have l4 := e2.load2 (i := 0) (by omega)
  have u0 : updL (updL (fun _ => .nilFunc) 0 [.int .i64 0, .int .i64 0]) 0 [.int .i64 (m.code[pc] : Int), .int .i64 (m.code[pc + 1] : Int)] 0 = .int .i64 (m.code[pc] : Int) := rfl
  have u1 : updL (updL (fun _ => .nilFunc) 0 [.int .i64 0, .int .i64 0]) 0 [.int .i64 (m.code[pc] : Int), .int .i64 (m.code[pc + 1] : Int)] (0 + 1) = .int .i64 (m.code[pc + 1] : Int) := rfl
  rw [u0, u1] at l4
  have l3' : loadA H3 H.next 3 1 = some [.slice (some (x, o)) 1 m.code.length cl] := by rw [e3.load (by omega), l3]
  simp -implicitDefEqProofs only [eH1, eH2, l3, p0, p1, p0n, pm, w1, pg, w2, q0, q1, ld, ld', cI, w3, w4, e1, l4, Bool.false_eq_true, go_sem]
  exact (s1.trans s2).ch (by omega) e3
def instP (m : UMethod) (op arg pc : Nat) : Bool :=
  if op = 0 ∨ op = 10 then decide ((arg : Int) < m.args + m.temps)
  else if op = 1 ∨ op = 11 then decide (arg < 62)
  else if op = 2 then litAt m arg 3
  else if op = 12 ∨ op = 13 then litAt m arg 5
  else if op = 20 then litAt m arg 6 && decide (2 ≤ (m.lits.getD arg (0, 0)).2)
  else if op = 18 then litAt m arg 7
  else if op = 15 ∨ op = 17 then decide (pc + 2 + 2 * arg < m.code.length)
  else if op = 16 then decide (2 * arg ≤ pc)
  else if op = 21 then decide (arg ≤ 23)
  else decide (op ≤ 21)
theorem ops (op : Nat) : op = 0 ∨ op = 10 ∨ op = 1 ∨ op = 11 ∨ op = 2 ∨ op = 12 ∨ op = 13 ∨ op = 20 ∨ op = 18 ∨ op = 15 ∨ op = 17 ∨ op = 16 ∨ op = 21 ∨ (op ≠ 0 ∧ op ≠ 10 ∧ op ≠ 1 ∧ op ≠ 11 ∧ op ≠ 2 ∧ op ≠ 12 ∧ op ≠ 13 ∧ op ≠ 20 ∧ op ≠ 18 ∧ op ≠ 15 ∧ op ≠ 17 ∧ op ≠ 16 ∧ op ≠ 21) := by omega
theorem dec_int {a b : Nat} : decide ((a : Int) < (b : Int)) = decide (a < b) := by
  by_cases h : a < b
  · have : (a : Int) < (b : Int) := by omega
    simp [h]
  · have : ¬ (a : Int) < (b : Int) := by omega
    simp [h]
theorem c_inst {H : AHeap} {m : UMethod} {cs : List AV} (h : MeE H m cs) {op arg pc : Nat} (ho : op < 256) (ha : arg < 256) (hp : pc ≤ 1000) (hm : 0 ≤ m.args ∧ m.args ≤ 8 ∧ 0 ≤ m.temps ∧ m.temps ≤ 8) : CW MN 110 [.agg cs, .agg [.int .i64 (op : Int), .int .i64 (arg : Int)], .int .i64 (pc : Int)] H fun u H' => u = .bool (instP m op arg pc) ∧ Sm H H' := by
  refine CW_of (fn := af110) rfl ?_
  dsimp only [af110, qm, q, qG, qn, qi, qb, qB, qk, qc, qo, qg, qv, qr]
  obtain ⟨wl, wc, bm, rfl⟩ := BoxM.of h
  have s1 := Chg.newRow H [.int .i64 m.args, .int .i64 m.temps, wl, wc]
  generalize eH1 : H.newRow [.int .i64 m.args, .int .i64 m.temps, wl, wc] = H1 at bm s1
  have s2 := Chg.newRow H1 [.int .i64 (op : Int), .int .i64 (arg : Int)]
  have r2 := Rd.newRow H1 [.int .i64 (op : Int), .int .i64 (arg : Int)]
  have hn2 : (H1.newRow [.int .i64 (op : Int), .int .i64 (arg : Int)]).next = H1.next + 1 := rfl
  generalize eH2 : H1.newRow [.int .i64 (op : Int), .int .i64 (arg : Int)] = H2 at s2 r2 hn2
  have bm := bm.sm s2
  have s12 := s1.trans s2
  obtain ⟨a, s0, cl, rfl, -⟩ := bm.code.shape
  obtain ⟨a', s0', cl', rfl, -⟩ := bm.lits.shape
  have lo := r2.one (j := 0) rfl
  have la := r2.one (j := 1) rfl
  rw [Nat.zero_add] at lo la
  have ma := bm.l0; have mt := bm.l1; have ml := bm.l2; have mc := bm.l3; have mm := bm.all
  have bl : BoxM H2 m _ H.next _ _ := bm
  have lit : ∀ k : Int, CW MN 118 [.agg [.int .i64 m.args, .int .i64 m.temps, .slice a' s0' m.lits.length cl', .slice a s0 m.code.length cl], .int .i64 (arg : Int), .int .i64 k] H2 fun u H' => u = .bool (litAt m arg k) ∧ Sm H2 H' := fun k => c_literal bm.me arg k
  have wat : IntKind.i64.wrap (m.args + m.temps) = m.args + m.temps := wrap64 (by omega) (by omega)
  have wp : IntKind.i64.wrap ((pc : Int) + 2) = ((pc + 2 : Nat) : Int) := by rw [wrap64 (by omega) (by omega)]; omega
  have w2a : IntKind.i64.wrap (2 * (arg : Int)) = ((2 * arg : Nat) : Int) := by rw [wrap64 (by omega) (by omega)]; omega
  have wpa : IntKind.i64.wrap (((pc + 2 : Nat) : Int) + ((2 * arg : Nat) : Int)) = ((pc + 2 + 2 * arg : Nat) : Int) := by rw [wrap64 (by omega) (by omega)]; omega
  have fin : ∀ {b c : Bool} {G : AHeap}, b = c → Sm H2 G → AV.bool b = AV.bool c ∧ Sm H G := fun e s => ⟨by rw [e], s12.trans s⟩
  have sr := Chg.refl H2
  generalize hz : (op : Int) = z at *
  rcases ops op with rfl | rfl | rfl | rfl | rfl | rfl | rfl | rfl | rfl | rfl | rfl | rfl | rfl | hh
  · obtain rfl : z = 0 := by omega
    simp -implicitDefEqProofs only [eH1, eH2, lo, la, ma, mt, wat, Int.reduceBEq, Bool.false_eq_true, go_sem]
    exact fin (by simp [instP]) sr
  · obtain rfl : z = 10 := by omega
    simp -implicitDefEqProofs only [eH1, eH2, lo, la, ma, mt, wat, Int.reduceBEq, Bool.false_eq_true, go_sem]
    exact fin (by simp [instP]) sr
  · obtain rfl : z = 1 := by omega
    simp -implicitDefEqProofs only [eH1, eH2, lo, la, Int.reduceBEq, Bool.false_eq_true, go_sem]
    exact fin (by simp [instP]; omega) sr
  · obtain rfl : z = 11 := by omega
    simp -implicitDefEqProofs only [eH1, eH2, lo, la, Int.reduceBEq, Bool.false_eq_true, go_sem]
    exact fin (by simp [instP]; omega) sr
  · obtain rfl : z = 2 := by omega
    simp -implicitDefEqProofs only [eH1, eH2, lo, la, mm, Int.reduceBEq, Bool.false_eq_true, go_sem]
    refine CW.mono (lit 3) ?_
    rintro u H3 ⟨rfl, s3⟩
    simp -implicitDefEqProofs only [go_sem]
    exact fin (by simp [instP]) s3
  · obtain rfl : z = 12 := by omega
    simp -implicitDefEqProofs only [eH1, eH2, lo, la, mm, Int.reduceBEq, Bool.false_eq_true, go_sem]
    refine CW.mono (lit 5) ?_
    rintro u H3 ⟨rfl, s3⟩
    simp -implicitDefEqProofs only [go_sem]
    exact fin (by simp [instP]) s3
  · obtain rfl : z = 13 := by omega
    simp -implicitDefEqProofs only [eH1, eH2, lo, la, mm, Int.reduceBEq, Bool.false_eq_true, go_sem]
    refine CW.mono (lit 5) ?_
    rintro u H3 ⟨rfl, s3⟩
    simp -implicitDefEqProofs only [go_sem]
    exact fin (by simp [instP]) s3
  · obtain rfl : z = 20 := by omega
    simp -implicitDefEqProofs only [eH1, eH2, lo, la, mm, Int.reduceBEq, Bool.false_eq_true, go_sem]
    refine CW.mono (lit 6) ?_
    rintro u H3 ⟨rfl, s3⟩
    cases hl : litAt m arg 6 with
    | false =>
      simp -implicitDefEqProofs only [Bool.false_eq_true, go_sem]
      exact fin (by simp [instP, hl]) s3
    | true =>
      have bm3 := bm.sm s3
      have ml3 := bm3.l2
      have la3 : loadA H3 H1.next 1 1 = some [.int .i64 (arg : Int)] := by rw [s3.ld (by omega), la]
      have hlt : arg < m.lits.length := by
        unfold litAt at hl
        simp only [Bool.and_eq_true, decide_eq_true_eq] at hl
        exact hl.1
      obtain ⟨x, o, rfl, rfl, -, -, ld, -⟩ := PrE.at bm3.lits hlt
      have a0 : (0 : Int) ≤ (arg : Int) := by omega
      have a1 : (arg : Int) < (m.lits.length : Int) := by omega
      have eg : m.lits.getD arg (0, 0) = m.lits[arg] := by rw [List.getD_eq_getElem?_getD, List.getElem?_eq_getElem hlt]; rfl
      simp -implicitDefEqProofs only [ml3, la3, a0, a1, ld, go_sem]
      exact fin (by simp only [instP, hl, eg]; simp) s3
  · obtain rfl : z = 18 := by omega
    simp -implicitDefEqProofs only [eH1, eH2, lo, la, mm, Int.reduceBEq, Bool.false_eq_true, go_sem]
    refine CW.mono (lit 7) ?_
    rintro u H3 ⟨rfl, s3⟩
    simp -implicitDefEqProofs only [go_sem]
    exact fin (by simp [instP]) s3
  · obtain rfl : z = 15 := by omega
    simp -implicitDefEqProofs only [eH1, eH2, lo, la, mc, wp, w2a, wpa, Int.reduceBEq, Bool.false_eq_true, go_sem]
    exact fin (by rw [dec_int]; simp [instP]) sr
  · obtain rfl : z = 17 := by omega
    simp -implicitDefEqProofs only [eH1, eH2, lo, la, mc, wp, w2a, wpa, Int.reduceBEq, Bool.false_eq_true, go_sem]
    exact fin (by rw [dec_int]; simp [instP]) sr
  · obtain rfl : z = 16 := by omega
    simp -implicitDefEqProofs only [eH1, eH2, lo, la, w2a, Int.reduceBEq, Bool.false_eq_true, go_sem]
    exact fin (by simp [instP]; omega) sr
  · obtain rfl : z = 21 := by omega
    simp -implicitDefEqProofs only [eH1, eH2, lo, la, Int.reduceBEq, Bool.false_eq_true, go_sem]
    refine CW.mono (c_takes arg) ?_
    rintro u H3 ⟨⟨n, rfl, hn⟩, rfl⟩
    simp -implicitDefEqProofs only [go_sem]
    exact fin (by simp only [instP, hn]; simp) sr
  · obtain ⟨n0, n10, n1, n11, n2, n12, n13, n20, n18, n15, n17, n16, n21⟩ := hh
    have q0 := ne_int n0; have q10 := ne_int n10; have q1 := ne_int n1; have q11 := ne_int n11; have q2 := ne_int n2; have q12 := ne_int n12; have q13 := ne_int n13; have q20 := ne_int n20; have q18 := ne_int n18; have q15 := ne_int n15; have q17 := ne_int n17; have q16 := ne_int n16; have q21 := ne_int n21
    rw [hz] at q0 q10 q1 q11 q2 q12 q13 q20 q18 q15 q17 q16 q21
    simp -implicitDefEqProofs only [Int.cast_ofNat_Int] at q0 q10 q1 q11 q2 q12 q13 q20 q18 q15 q17 q16 q21
    simp -implicitDefEqProofs only [eH1, eH2, lo, la, q0, q10, q1, q11, q2, q12, q13, q20, q18, q15, q17, q16, q21, Bool.false_eq_true, go_sem]
    refine fin ?_ sr
    simp only [instP, n0, n10, n1, n11, n2, n12, n13, n20, n18, n15, n17, n16, n21, or_self, if_false]
    rw [Bool.eq_iff_iff]
    simp only [decide_eq_true_eq]
    omega
set_option maxHeartbeats 4000000
end Go.Proofs.YtojeldemfccilaaGreatDoor.AA
