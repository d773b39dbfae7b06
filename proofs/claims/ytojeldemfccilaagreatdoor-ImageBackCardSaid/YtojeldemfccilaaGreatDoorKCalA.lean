/- The calculus of the machine; blocks, slices, rows, maps. -/
import Derived.Test.YtojeldemfccilaaGreatDoorKMachD
set_option linter.unusedSimpArgs false
set_option linter.unusedVariables false
namespace Go.Proofs.YtojeldemfccilaaGreatDoor.AA
open Go Go.RowKit
structure Mach where
  fs : Nat → Option AFunc
  ms : Meth
  ora : Rec
abbrev Post := AEx → AFr → AHeap → Prop
def callA (M : Mach) (n : Nat) : Rec := fun f args H => match M.fs f with
  | none => M.ora f args H
  | some fn => match runA M.fs M.ms M.ora n fn.body (initA 0 .nil args) H with
    | some (.exit _, _, _) => none
    | some (_, fr, H) => (match resA fr H fn.results with
      | some [v] => some (v, H)
      | some vs => some (.tuple vs, H)
      | none => none)
    | none => none
def Ret (M : Mach) (f : Nat) (l : List AV) (H : AHeap) (v : AV) (H' : AHeap) : Prop := ∃ n0, ∀ n, n0 ≤ n → callA M n f l H = some (v, H')
def CW (M : Mach) (f : Nat) (l : List AV) (H : AHeap) (Q : AV → AHeap → Prop) : Prop := ∃ v H', Ret M f l H v H' ∧ Q v H'
def OptK (o : Option (AV × AHeap)) (K : AV → AHeap → Prop) : Prop := match o with
  | some (v, H) => K v H
  | none => False
def EvK {α : Type} (o : Option α) (K : α → Prop) : Prop := match o with
  | some v => K v
  | none => False
def XW (M : Mach) : AOp → (AV → AHeap → Prop) → AFr → AHeap → Prop
  | .call f xs, K, fr, H => EvK (evs fr xs) fun l => CW M f l H K
  | .callV f xs, K, fr, H => match fr.ev f with
    | some (.func (.func g) a b) => EvK (evs fr xs) fun l => CW M g (a ++ l ++ b) H K
    | _ => False
  | .invoke x name xs, K, fr, H => match fr.ev x with
    | some (.iface t v) => (match M.ms t name with
      | some (f, none) => EvK (evs fr xs) fun l => CW M f (v :: l) H K
      | _ => False)
    | _ => False
  | op, K, fr, H => OptK (exA noOra M.ms op fr H) K
def KO (M : Mach) (f : (AFr → AHeap → Prop)) (d : Option Nat) (fr : AFr) (v : AV) (H : AHeap) : Prop := f (putA fr d v) H
def GW (w : Option Bool) (P P' : Prop) : Prop := match w with
  | some true => P
  | some false => P'
  | none => False
def OW (M : Mach) : List AOper → (AFr → AHeap → Prop) → AFr → AHeap → Prop
  | [], Q, fr, H => Q fr H
  | o :: os, Q, fr, H => match o.guard with
    | none => XW M o.op (KO M (OW M os Q) o.dst fr) fr H
    | some g => GW (wantA fr (some g)) (XW M o.op (KO M (OW M os Q) o.dst fr) fr H) (OW M os Q (putA fr o.dst (.tuple [])) H)
abbrev Obl := AOper × AFr × AV × Nat × Nat
def DAt (M : Mach) (o : AOper) (fr : AFr) (v : AV) : List AHeap → Prop
  | [] => True
  | H :: l => EvK (stepA noOra M.ms o fr H) (fun p => eqAV v p.1 = true) ∧ DAt M o fr v l
def DChk (M : Mach) (hs : List AHeap) : List Obl → Prop
  | [] => True
  | (o, fr, v, lo, hi) :: l => DAt M o fr v ((hs.take (hi + 1)).drop lo) ∧ DChk M hs l
def KD (f : AHeap → AFr → AV → AHeap → Prop) (H0 : AHeap) (fr : AFr) (v : AV) (H : AHeap) : Prop := f H0 fr v H
def DW (M : Mach) : List AOper → List (Nat × Nat × List Nat) → List Obl → List AHeap → (AFr → AHeap → Prop) → AFr → AHeap → Prop
  | [], _, ob, hs, Q, fr, H => DChk M (hs ++ [H]) ob ∧ Q fr H
  | o :: os, (lo, hi, _) :: ws, ob, hs, Q, fr, H => GW (wantA fr o.guard)
      (XW M o.op (KD (fun H0 fr v H => DW M os ws (bif o.op.cl.beq 1 then ob ++ [(o, fr, v, lo, hi)] else ob) (bif o.op.cl.beq 2 then hs ++ [H0] else hs) Q (putA fr o.dst v) H) H fr) fr H)
      (DW M os ws (bif o.op.cl.beq 1 then ob ++ [(o, fr, .tuple [], lo, hi)] else ob) (bif o.op.cl.beq 2 then hs ++ [H] else hs) Q (putA fr o.dst (.tuple [])) H)
  | _ :: _, [], _, _, _, _, _ => False
def KS (P : AFr → AHeap → Prop) (Q : Post) : Post
  | .normal, fr, H => P fr H
  | .ret, fr, H => Q .ret fr H
  | .exit i, fr, H => Q (.exit i) fr H
def KB (id : Nat) (Q : Post) : Post
  | .normal, fr, H => Q .normal fr H
  | .ret, fr, H => Q .ret fr H
  | .exit i, fr, H => bif i.beq id then Q .normal fr H else Q (.exit i) fr H
def LP (B : Post → AFr → AHeap → Prop) (Q : Post) : Nat → AFr → AHeap → Prop
  | 0, _, _ => False
  | k + 1, fr, H => B (KS (LP B Q k) Q) fr H
def CP (x : Option AV) (P P' : Prop) : Prop := match x with
  | some (.bool b) => bif b then P else P'
  | _ => False
def WP (M : Mach) : ACode → Post → AFr → AHeap → Prop
  | .skip, Q, fr, H => Q .normal fr H
  | .region ops, Q, fr, H => OW M ops (Q .normal) fr H
  | .dregion ops ws, Q, fr, H => DW M ops ws [] [] (Q .normal) fr H
  | .seq a b, Q, fr, H => WP M a (KS (WP M b Q) Q) fr H
  | .cond c x y, Q, fr, H => CP (fr.ev c) (WP M x Q fr H) (WP M y Q fr H)
  | .block id c, Q, fr, H => WP M c (KB id Q) fr H
  | .loop c, Q, fr, H => ∃ k, LP (WP M c) Q k fr H
  | .exit id, Q, fr, H => Q (.exit id) fr H
  | .ret, Q, fr, H => Q .ret fr H
  | .bad _, _, _, _ => False
def RP (fn : AFunc) (Q : AV → AHeap → Prop) : Post
  | .exit _, _, _ => False
  | _, fr, H => match resA fr H fn.results with
    | some [v] => Q v H
    | some vs => Q (.tuple vs) H
    | none => False
section
variable {M : Mach}
theorem CW.mono {f : Nat} {l : List AV} {H : AHeap} {Q Q' : AV → AHeap → Prop} (h : CW M f l H Q) (k : ∀ v H', Q v H' → Q' v H') : CW M f l H Q' := by
  obtain ⟨v, H', h1, h2⟩ := h
  exact ⟨v, H', h1, k _ _ h2⟩
theorem XW_sound {op : AOp} {K : AV → AHeap → Prop} {fr : AFr} {H : AHeap} (h : XW M op K fr H) : ∃ v H' n0, (∀ n, n0 ≤ n → exA (callA M n) M.ms op fr H = some (v, H')) ∧ K v H' := by
  have key : ∀ op' : AOp, (∀ c, exA c M.ms op' fr H = exA noOra M.ms op' fr H) → OptK (exA noOra M.ms op' fr H) K → ∃ v H' n0, (∀ n, n0 ≤ n → exA (callA M n) M.ms op' fr H = some (v, H')) ∧ K v H' := by
    intro op' e h
    unfold OptK at h
    split at h
    · rename_i v H' he
      exact ⟨v, H', 0, fun n _ => by rw [e, he], h⟩
    · cases h
  cases op <;> simp only [XW] at h <;> first
    | exact key _ (fun c => rfl) h
    | skip
  · rename_i f xs
    unfold EvK at h
    split at h
    · rename_i l hl
      obtain ⟨v, H', ⟨n0, h1⟩, h2⟩ := h
      exact ⟨v, H', n0, fun n hn => by simp only [exA, hl]; exact h1 n hn, h2⟩
    · cases h
  · rename_i f xs
    split at h
    · rename_i g a b hg
      unfold EvK at h
      split at h
      · rename_i l hl
        obtain ⟨v, H', ⟨n0, h1⟩, h2⟩ := h
        exact ⟨v, H', n0, fun n hn => by simp only [exA, hl, hg]; exact h1 n hn, h2⟩
      · cases h
    · cases h
  · rename_i x name xs
    split at h
    · rename_i t v hx
      split at h
      · rename_i f hf
        unfold EvK at h
        split at h
        · rename_i l hl
          obtain ⟨v, H', ⟨n0, h1⟩, h2⟩ := h
          exact ⟨v, H', n0, fun n hn => by simp only [exA, hl, hx, hf]; exact h1 n hn, h2⟩
        · cases h
      · cases h
    · cases h
theorem OW_sound : ∀ {ops : List AOper} {Q : AFr → AHeap → Prop} {fr : AFr} {H : AHeap}, OW M ops Q fr H → ∃ fr' H' n0, (∀ n, n0 ≤ n → opsA (callA M n) M.ms ops fr H = some (fr', H')) ∧ Q fr' H'
  | [], Q, fr, H, h => ⟨fr, H, 0, fun _ _ => rfl, h⟩
  | o :: os, Q, fr, H, h => by
    have step : ∀ {g}, o.guard = g → wantA fr g = some true → XW M o.op (KO M (OW M os Q) o.dst fr) fr H → ∃ fr' H' n0, (∀ n, n0 ≤ n → opsA (callA M n) M.ms (o :: os) fr H = some (fr', H')) ∧ Q fr' H' := by
      intro g hg hw h
      obtain ⟨v, H1, n1, h1, h2⟩ := XW_sound h
      obtain ⟨fr', H', n2, h3, h4⟩ := OW_sound (h2 : OW M os Q (putA fr o.dst v) H1)
      exact ⟨fr', H', max n1 n2, fun n hn => by
        simp only [opsA, hg, hw, h1 n (by omega)]
        exact h3 n (by omega), h4⟩
    unfold OW at h
    split at h
    · rename_i hg
      exact step hg rfl h
    · rename_i g hg
      unfold GW at h
      split at h
      · rename_i hw
        exact step hg hw h
      · rename_i hw
        obtain ⟨fr', H', n2, h3, h4⟩ := OW_sound h
        exact ⟨fr', H', n2, fun n hn => by
          simp only [opsA, hg, hw]
          exact h3 n hn, h4⟩
      · cases h
theorem step_cl {o : AOper} (h : o.op.cl.beq 1 = true) (c : Rec) (fr : AFr) (H : AHeap) : stepA c M.ms o fr H = stepA noOra M.ms o fr H := by
  have e : exA c M.ms o.op fr H = exA noOra M.ms o.op fr H := by
    cases hh : o.op <;> rw [hh] at h <;> first
      | rfl
      | (simp [AOp.cl] at h; done)
  unfold stepA
  rw [e]
theorem DAt_sound {o : AOper} (h : o.op.cl.beq 1 = true) {fr : AFr} {v : AV} (c : Rec) : ∀ {l : List AHeap}, DAt M o fr v l → chkAt c M.ms o fr v l = true
  | [], _ => rfl
  | H :: l, ha => by
    obtain ⟨h1, h2⟩ := ha
    unfold EvK at h1
    split at h1
    · rename_i p hp
      obtain ⟨v', H'⟩ := p
      unfold chkAt
      rw [step_cl h, hp]
      simp only [Bool.and_eq_true]
      exact ⟨h1, DAt_sound h c h2⟩
    · cases h1
theorem DChk_append {hs : List AHeap} : ∀ {l l' : List Obl}, DChk M hs (l ++ l') → DChk M hs l ∧ DChk M hs l'
  | [], l', h => ⟨trivial, h⟩
  | (o, fr, v, lo, hi) :: l, l', h => by
    obtain ⟨h1, h2⟩ := h
    obtain ⟨h3, h4⟩ := DChk_append h2
    exact ⟨⟨h1, h3⟩, h4⟩
theorem DW_sound : ∀ {ops : List AOper} {ws : List (Nat × Nat × List Nat)} {ob : List Obl} {hs : List AHeap} {Q : AFr → AHeap → Prop} {fr : AFr} {H : AHeap}, DW M ops ws ob hs Q fr H → ∃ rs hs' fr' H' n0, (∀ n, n0 ≤ n → drun (callA M n) M.ms ops fr H = some (rs, hs', fr', H') ∧ dchk (callA M n) M.ms (hs ++ hs') ops rs ws = true) ∧ DChk M (hs ++ hs') ob ∧ Q fr' H'
  | [], ws, ob, hs, Q, fr, H, h => by
    simp only [DW] at h
    exact ⟨[], [H], fr, H, 0, fun n _ => ⟨rfl, by cases ws <;> rfl⟩, h.1, h.2⟩
  | o :: os, [], ob, hs, Q, fr, H, h => by simp only [DW] at h
  | o :: os, (lo, hi, an) :: ws, ob, hs, Q, fr, H, h => by
    have step : ∀ v H1 n1, (∀ n, n1 ≤ n → stepA (callA M n) M.ms o fr H = some (v, H1)) → DW M os ws (bif o.op.cl.beq 1 then ob ++ [(o, fr, v, lo, hi)] else ob) (bif o.op.cl.beq 2 then hs ++ [H] else hs) Q (putA fr o.dst v) H1 → ∃ rs hs' fr' H' n0, (∀ n, n0 ≤ n → drun (callA M n) M.ms (o :: os) fr H = some (rs, hs', fr', H') ∧ dchk (callA M n) M.ms (hs ++ hs') (o :: os) rs ((lo, hi, an) :: ws) = true) ∧ DChk M (hs ++ hs') ob ∧ Q fr' H' := by
      intro v H1 n1 h1 h2
      obtain ⟨rs, hs', fr', H', n0, h3, h4, h5⟩ := DW_sound h2
      have hcat : (bif o.op.cl.beq 2 then hs ++ [H] else hs) ++ hs' = hs ++ (bif o.op.cl.beq 2 then H :: hs' else hs') := by
        cases o.op.cl.beq 2 <;> simp
      rw [hcat] at h3 h4
      refine ⟨(fr, v) :: rs, bif o.op.cl.beq 2 then H :: hs' else hs', fr', H', max n0 n1, fun n hn => ⟨?_, ?_⟩, ?_, h5⟩
      · unfold drun
        rw [h1 n (by omega)]
        simp only
        rw [(h3 n (by omega)).1]
      · unfold dchk
        simp only [Bool.and_eq_true]
        refine ⟨?_, (h3 n (by omega)).2⟩
        cases hc : o.op.cl.beq 1
        · rfl
        · rw [hc] at h4
          obtain ⟨-, h6, -⟩ := DChk_append h4
          simp only [cond_true]
          exact DAt_sound hc _ h6
      · cases hc : o.op.cl.beq 1
        · rw [hc] at h4; exact h4
        · rw [hc] at h4
          exact (DChk_append h4).1
    unfold DW GW at h
    split at h
    · rename_i hw
      obtain ⟨v, H1, n1, h1, h2⟩ := XW_sound h
      exact step v H1 n1 (fun n hn => by unfold stepA; rw [hw]; exact h1 n hn) h2
    · rename_i hw
      exact step (.tuple []) H 0 (fun n _ => by unfold stepA; rw [hw]) h
    · cases h
theorem LP_sound {c : ACode} {Q : Post} (ih : ∀ {Q : Post} {fr : AFr} {H : AHeap}, WP M c Q fr H → ∃ ex fr' H' n0, (∀ n, n0 ≤ n → runA M.fs M.ms M.ora n c fr H = some (ex, fr', H')) ∧ Q ex fr' H') : ∀ {k : Nat} {fr : AFr} {H : AHeap}, LP (WP M c) Q k fr H → ∃ ex fr' H' n0, (∀ n, n0 ≤ n → runA M.fs M.ms M.ora n (.loop c) fr H = some (ex, fr', H')) ∧ Q ex fr' H'
  | 0, fr, H, h => by cases h
  | k + 1, fr, H, h => by
    obtain ⟨ex, fr1, H1, n1, h1, h2⟩ := ih h
    cases ex with
    | normal =>
      obtain ⟨ex, fr2, H2, n2, h3, h4⟩ := LP_sound ih (h2 : LP (WP M c) Q k fr1 H1)
      refine ⟨ex, fr2, H2, max n1 n2 + 1, fun n hn => ?_, h4⟩
      obtain ⟨m, rfl⟩ : ∃ m, n = m + 1 := ⟨n - 1, by omega⟩
      unfold runA
      simp only
      rw [h1 m (by omega)]
      exact h3 m (by omega)
    | exit i =>
      refine ⟨.exit i, fr1, H1, n1 + 1, fun n hn => ?_, h2⟩
      obtain ⟨m, rfl⟩ : ∃ m, n = m + 1 := ⟨n - 1, by omega⟩
      unfold runA
      simp only
      rw [h1 m (by omega)]
    | ret =>
      refine ⟨.ret, fr1, H1, n1 + 1, fun n hn => ?_, h2⟩
      obtain ⟨m, rfl⟩ : ∃ m, n = m + 1 := ⟨n - 1, by omega⟩
      unfold runA
      simp only
      rw [h1 m (by omega)]
theorem WP_sound : ∀ {c : ACode} {Q : Post} {fr : AFr} {H : AHeap}, WP M c Q fr H → ∃ ex fr' H' n0, (∀ n, n0 ≤ n → runA M.fs M.ms M.ora n c fr H = some (ex, fr', H')) ∧ Q ex fr' H' := by
  intro c
  have one : ∀ {c : ACode} {fr : AFr} {H : AHeap} {r} (n1 : Nat), (∀ n, n1 ≤ n → runA M.fs M.ms M.ora (n + 1) c fr H = r) → ∀ n, n1 + 1 ≤ n → runA M.fs M.ms M.ora n c fr H = r := by
    intro c fr H r n1 h n hn
    obtain ⟨m, rfl⟩ : ∃ m, n = m + 1 := ⟨n - 1, by omega⟩
    exact h m (by omega)
  induction c with
  | skip => intro Q fr H h; exact ⟨.normal, fr, H, 1, one 0 fun n _ => rfl, h⟩
  | region ops =>
    intro Q fr H h
    obtain ⟨fr', H', n0, h1, h2⟩ := OW_sound (h : OW M ops (Q .normal) fr H)
    refine ⟨.normal, fr', H', n0 + 1, one n0 fun n hn => ?_, h2⟩
    have := h1 n hn
    unfold runA
    show (match opsA (callA M n) M.ms ops fr H with | some (fr, H) => some (AEx.normal, fr, H) | none => none) = _
    rw [this]
  | dregion ops ws =>
    intro Q fr H h
    obtain ⟨rs, hs, fr', H', n0, h1, -, h2⟩ := DW_sound (h : DW M ops ws [] [] (Q .normal) fr H)
    refine ⟨.normal, fr', H', n0 + 1, one n0 fun n hn => ?_, h2⟩
    obtain ⟨h3, h4⟩ := h1 n hn
    unfold runA
    show (match drun (callA M n) M.ms ops fr H with | some (rs, hs, fr, H) => (bif dchk (callA M n) M.ms hs ops rs ws then some (AEx.normal, fr, H) else none) | none => none) = _
    rw [h3]
    simp only
    rw [List.nil_append] at h4
    rw [h4]
    rfl
  | seq a b iha ihb =>
    intro Q fr H h
    obtain ⟨ex, fr1, H1, n1, h1, h2⟩ := iha (h : WP M a (KS (WP M b Q) Q) fr H)
    cases ex with
    | normal =>
      obtain ⟨ex, fr2, H2, n2, h3, h4⟩ := ihb (h2 : WP M b Q fr1 H1)
      refine ⟨ex, fr2, H2, max n1 n2 + 1, one (max n1 n2) fun n hn => ?_, h4⟩
      unfold runA
      simp only
      rw [h1 n (by omega)]
      exact h3 n (by omega)
    | exit i =>
      refine ⟨.exit i, fr1, H1, n1 + 1, one n1 fun n hn => ?_, h2⟩
      unfold runA
      simp only
      rw [h1 n (by omega)]
    | ret =>
      refine ⟨.ret, fr1, H1, n1 + 1, one n1 fun n hn => ?_, h2⟩
      unfold runA
      simp only
      rw [h1 n (by omega)]
  | cond c x y ihx ihy =>
    intro Q fr H h
    unfold WP CP at h
    split at h
    · rename_i b hb
      cases b with
      | true =>
        obtain ⟨ex, fr1, H1, n1, h1, h2⟩ := ihx h
        exact ⟨ex, fr1, H1, n1 + 1, one n1 fun n hn => by unfold runA; simp only; rw [hb]; exact h1 n hn, h2⟩
      | false =>
        obtain ⟨ex, fr1, H1, n1, h1, h2⟩ := ihy h
        exact ⟨ex, fr1, H1, n1 + 1, one n1 fun n hn => by unfold runA; simp only; rw [hb]; exact h1 n hn, h2⟩
    · cases h
  | block id c ih =>
    intro Q fr H h
    obtain ⟨ex, fr1, H1, n1, h1, h2⟩ := ih (h : WP M c (KB id Q) fr H)
    cases ex with
    | normal => exact ⟨.normal, fr1, H1, n1 + 1, one n1 fun n hn => by unfold runA; simp only; rw [h1 n hn], h2⟩
    | ret => exact ⟨.ret, fr1, H1, n1 + 1, one n1 fun n hn => by unfold runA; simp only; rw [h1 n hn], h2⟩
    | exit i =>
      simp only [KB] at h2
      cases hi : i.beq id with
      | true =>
        rw [hi] at h2
        exact ⟨.normal, fr1, H1, n1 + 1, one n1 fun n hn => by unfold runA; simp only; rw [h1 n hn]; simp only [hi, cond_true], h2⟩
      | false =>
        rw [hi] at h2
        exact ⟨.exit i, fr1, H1, n1 + 1, one n1 fun n hn => by unfold runA; simp only; rw [h1 n hn]; simp only [hi, cond_false], h2⟩
  | loop c ih =>
    intro Q fr H h
    obtain ⟨k, h⟩ := h
    exact LP_sound ih h
  | exit i => intro Q fr H h; exact ⟨.exit i, fr, H, 1, one 0 fun n _ => rfl, h⟩
  | ret => intro Q fr H h; exact ⟨.ret, fr, H, 1, one 0 fun n _ => rfl, h⟩
  | bad w => intro Q fr H h; cases h
theorem CW_of {f : Nat} {fn : AFunc} (hf : M.fs f = some fn) {l : List AV} {H : AHeap} {Q : AV → AHeap → Prop} (h : WP M fn.body (RP fn Q) (initA 0 .nil l) H) : CW M f l H Q := by
  obtain ⟨ex, fr', H', n0, h1, h2⟩ := WP_sound h
  have key : ex ≠ .exit 0 → (∀ i, ex ≠ .exit i) → CW M f l H Q := by
    intro _ hne
    have h3 : (match resA fr' H' fn.results with | some [v] => Q v H' | some vs => Q (.tuple vs) H' | none => False) := by
      cases ex with
      | normal => exact h2
      | ret => exact h2
      | exit i => exact absurd rfl (hne i)
    have h4 : ∀ n, n0 ≤ n → callA M n f l H = (match resA fr' H' fn.results with | some [v] => some (v, H') | some vs => some (.tuple vs, H') | none => none) := by
      intro n hn
      unfold callA
      rw [hf]
      simp only
      rw [h1 n hn]
      cases ex with
      | normal => rfl
      | ret => rfl
      | exit i => exact absurd rfl (hne i)
    split at h3
    · rename_i v hv
      rw [hv] at h4
      exact ⟨v, H', ⟨n0, h4⟩, h3⟩
    · rename_i vs hne2 hv
      refine ⟨.tuple vs, H', ⟨n0, fun n hn => ?_⟩, h3⟩
      rw [h4 n hn, hv]
      split
      · rename_i v hv'
        exact absurd (Option.some.inj hv') (by rintro rfl; exact hne2 v rfl)
      · rename_i vs' _ hv'
        rw [← Option.some.inj hv']
      · rename_i hv'; cases hv'
    · cases h3
  cases ex with
  | exit i => cases h2
  | normal => exact key (by simp) (by simp)
  | ret => exact key (by simp) (by simp)
end
section
variable {M : Mach} {Q : Post} {fr : AFr} {H : AHeap}
theorem WP_skip : WP M .skip Q fr H = Q .normal fr H := rfl
theorem WP_region {ops : List AOper} : WP M (.region ops) Q fr H = OW M ops (Q .normal) fr H := rfl
theorem WP_dregion {ops : List AOper} {ws : List (Nat × Nat × List Nat)} : WP M (.dregion ops ws) Q fr H = DW M ops ws [] [] (Q .normal) fr H := rfl
theorem WP_seq {a b : ACode} : WP M (.seq a b) Q fr H = WP M a (KS (WP M b Q) Q) fr H := rfl
def CP2 (x : Option AV) (A B : AFr → AHeap → Prop) (fr : AFr) (H : AHeap) : Prop := CP x (A fr H) (B fr H)
def GW2 (w : Option Bool) (A B : AFr → AHeap → Prop) (fr : AFr) (H : AHeap) : Prop := GW w (A fr H) (B fr H)
theorem CP2_bool {b : Bool} {A B : AFr → AHeap → Prop} : CP2 (some (.bool b)) A B fr H = if b = true then A fr H else B fr H := by cases b <;> rfl
theorem GW2_true {A B : AFr → AHeap → Prop} : GW2 (some true) A B fr H = A fr H := rfl
theorem GW2_false {A B : AFr → AHeap → Prop} : GW2 (some false) A B fr H = B fr H := rfl
theorem WP_cond {c : AOpnd} {x y : ACode} : WP M (.cond c x y) Q fr H = CP2 (fr.ev c) (WP M x Q) (WP M y Q) fr H := rfl
theorem WP_block {i : Nat} {c : ACode} : WP M (.block i c) Q fr H = WP M c (KB i Q) fr H := rfl
theorem WP_exit {i : Nat} : WP M (.exit i) Q fr H = Q (.exit i) fr H := rfl
theorem WP_ret : WP M .ret Q fr H = Q .ret fr H := rfl
theorem OW_nil {P : AFr → AHeap → Prop} : OW M [] P fr H = P fr H := rfl
theorem OW_cons {P : AFr → AHeap → Prop} {d : Option Nat} {op : AOp} {os : List AOper} : OW M (⟨d, op, none⟩ :: os) P fr H = XW M op (KO M (OW M os P) d fr) fr H := rfl
def OWskip (M : Mach) (os : List AOper) (P : AFr → AHeap → Prop) (d : Option Nat) (fr : AFr) (H : AHeap) : Prop := OW M os P (putA fr d (.tuple [])) H
theorem OWskip_eq {os : List AOper} {P : AFr → AHeap → Prop} {d : Option Nat} : OWskip M os P d fr H = OW M os P (putA fr d (.tuple [])) H := rfl
theorem OW_guard {P : AFr → AHeap → Prop} {d : Option Nat} {op : AOp} {g : Nat × Bool} {os : List AOper} : OW M (⟨d, op, some g⟩ :: os) P fr H = GW2 (wantA fr (some g)) (XW M op (KO M (OW M os P) d fr)) (OWskip M os P d) fr H := rfl
theorem KO_eq {f : AFr → AHeap → Prop} {d : Option Nat} {v : AV} : KO M f d fr v H = f (putA fr d v) H := rfl
theorem OptK_some {K : AV → AHeap → Prop} {v : AV} : OptK (some (v, H)) K = K v H := rfl
theorem EvK_some {α : Type} {K : α → Prop} {v : α} : EvK (some v) K = K v := rfl
theorem KS_normal {P : AFr → AHeap → Prop} : KS P Q .normal fr H = P fr H := rfl
theorem KS_ret {P : AFr → AHeap → Prop} : KS P Q .ret fr H = Q .ret fr H := rfl
theorem KS_exit {P : AFr → AHeap → Prop} {i : Nat} : KS P Q (.exit i) fr H = Q (.exit i) fr H := rfl
theorem KB_normal {i : Nat} : KB i Q .normal fr H = Q .normal fr H := rfl
theorem KB_ret {i : Nat} : KB i Q .ret fr H = Q .ret fr H := rfl
theorem KB_exit {i j : Nat} : KB i Q (.exit j) fr H = (bif j.beq i then Q .normal fr H else Q (.exit j) fr H) := rfl
theorem RP_ret {fn : AFunc} {K : AV → AHeap → Prop} : RP fn K .ret fr H = (match resA fr H fn.results with | some [v] => K v H | some vs => K (.tuple vs) H | none => False) := rfl
theorem putA_some {d : Nat} {v : AV} : putA fr (some d) v = fr.set d (some v) := rfl
theorem putA_none {v : AV} : putA fr none v = fr := rfl
theorem ev_t {i : Nat} : fr.ev (.t i) = fr.get i := rfl
theorem ev_c {v : AV} : fr.ev (.c v) = some v := rfl
theorem XW_call {f : Nat} {xs : List AOpnd} {K : AV → AHeap → Prop} : XW M (.call f xs) K fr H = EvK (evs fr xs) fun l => CW M f l H K := rfl
theorem DW_nil {ws : List (Nat × Nat × List Nat)} {ob : List Obl} {hs : List AHeap} {P : AFr → AHeap → Prop} : DW M [] ws ob hs P fr H = (DChk M (hs ++ [H]) ob ∧ P fr H) := by cases ws <;> rfl
def KDW (M : Mach) (os : List AOper) (ws : List (Nat × Nat × List Nat)) (ob : List Obl) (hs : List AHeap) (P : AFr → AHeap → Prop) (c : Nat) (o : AOper) (lo hi : Nat) (fr : AFr) (H0 : AHeap) (v : AV) (H : AHeap) : Prop :=
  DW M os ws (bif c.beq 1 then ob ++ [(o, fr, v, lo, hi)] else ob) (bif c.beq 2 then hs ++ [H0] else hs) P (putA fr o.dst v) H
theorem KDW_0 {os : List AOper} {ws : List (Nat × Nat × List Nat)} {ob : List Obl} {hs : List AHeap} {P : AFr → AHeap → Prop} {o : AOper} {lo hi : Nat} {H0 : AHeap} {v : AV} : KDW M os ws ob hs P 0 o lo hi fr H0 v H = DW M os ws ob hs P (putA fr o.dst v) H := rfl
theorem KDW_1 {os : List AOper} {ws : List (Nat × Nat × List Nat)} {ob : List Obl} {hs : List AHeap} {P : AFr → AHeap → Prop} {o : AOper} {lo hi : Nat} {H0 : AHeap} {v : AV} : KDW M os ws ob hs P 1 o lo hi fr H0 v H = DW M os ws (ob ++ [(o, fr, v, lo, hi)]) hs P (putA fr o.dst v) H := rfl
theorem KDW_2 {os : List AOper} {ws : List (Nat × Nat × List Nat)} {ob : List Obl} {hs : List AHeap} {P : AFr → AHeap → Prop} {o : AOper} {lo hi : Nat} {H0 : AHeap} {v : AV} : KDW M os ws ob hs P 2 o lo hi fr H0 v H = DW M os ws ob (hs ++ [H0]) P (putA fr o.dst v) H := rfl
theorem DW_cons {d : Option Nat} {op : AOp} {os : List AOper} {lo hi : Nat} {an : List Nat} {ws : List (Nat × Nat × List Nat)} {ob : List Obl} {hs : List AHeap} {P : AFr → AHeap → Prop} :
    DW M (⟨d, op, none⟩ :: os) ((lo, hi, an) :: ws) ob hs P fr H = XW M op (KDW M os ws ob hs P op.cl ⟨d, op, none⟩ lo hi fr H) fr H := rfl
def DWskip (M : Mach) (os : List AOper) (ws : List (Nat × Nat × List Nat)) (ob : List Obl) (hs : List AHeap) (P : AFr → AHeap → Prop) (c : Nat) (o : AOper) (lo hi : Nat) (fr : AFr) (H : AHeap) : Prop := KDW M os ws ob hs P c o lo hi fr H (.tuple []) H
theorem DWskip_eq {os : List AOper} {ws : List (Nat × Nat × List Nat)} {ob : List Obl} {hs : List AHeap} {P : AFr → AHeap → Prop} {c : Nat} {o : AOper} {lo hi : Nat} : DWskip M os ws ob hs P c o lo hi fr H = KDW M os ws ob hs P c o lo hi fr H (.tuple []) H := rfl
theorem DW_guard {d : Option Nat} {op : AOp} {g : Nat × Bool} {os : List AOper} {lo hi : Nat} {an : List Nat} {ws : List (Nat × Nat × List Nat)} {ob : List Obl} {hs : List AHeap} {P : AFr → AHeap → Prop} :
    DW M (⟨d, op, some g⟩ :: os) ((lo, hi, an) :: ws) ob hs P fr H = GW2 (wantA fr (some g)) (XW M op (KDW M os ws ob hs P op.cl ⟨d, op, some g⟩ lo hi fr H)) (DWskip M os ws ob hs P op.cl ⟨d, op, some g⟩ lo hi) fr H := rfl
theorem OptK_mono {o : Option (AV × AHeap)} {K K' : AV → AHeap → Prop} (k : ∀ v H, K v H → K' v H) (h : OptK o K) : OptK o K' := by
  unfold OptK at h ⊢
  split at h
  · exact k _ _ h
  · cases h
theorem EvK_mono {α : Type} {o : Option α} {K K' : α → Prop} (k : ∀ v, K v → K' v) (h : EvK o K) : EvK o K' := by
  unfold EvK at h ⊢
  split at h
  · exact k _ h
  · cases h
theorem XW_mono {op : AOp} {K K' : AV → AHeap → Prop} (k : ∀ v H, K v H → K' v H) (h : XW M op K fr H) : XW M op K' fr H := by
  cases op <;> simp only [XW] at h ⊢ <;> first
    | exact OptK_mono k h
    | skip
  · exact EvK_mono (fun l hl => CW.mono hl k) h
  · split at h
    · exact EvK_mono (fun l hl => CW.mono hl k) h
    · cases h
  · split at h
    · split at h
      · exact EvK_mono (fun l hl => CW.mono hl k) h
      · cases h
    · cases h
theorem GW_mono {w : Option Bool} {P P' R R' : Prop} (k : P → P') (k' : R → R') (h : GW w P R) : GW w P' R' := by
  unfold GW at h ⊢
  split at h
  · exact k h
  · exact k' h
  · cases h
theorem OW_mono : ∀ {ops : List AOper} {P P' : AFr → AHeap → Prop} {fr : AFr} {H : AHeap}, (∀ fr H, P fr H → P' fr H) → OW M ops P fr H → OW M ops P' fr H
  | [], P, P', fr, H, k, h => k _ _ h
  | ⟨d, op, none⟩ :: os, P, P', fr, H, k, h => by
    rw [OW_cons] at h ⊢
    exact XW_mono (fun v H hv => OW_mono k hv) h
  | ⟨d, op, some g⟩ :: os, P, P', fr, H, k, h => by
    rw [OW_guard] at h ⊢
    unfold GW2 OWskip at h ⊢
    exact GW_mono (XW_mono fun v H hv => OW_mono k hv) (OW_mono k) h
theorem DW_mono : ∀ {ops : List AOper} {ws : List (Nat × Nat × List Nat)} {ob : List Obl} {hs : List AHeap} {P P' : AFr → AHeap → Prop} {fr : AFr} {H : AHeap}, (∀ fr H, P fr H → P' fr H) → DW M ops ws ob hs P fr H → DW M ops ws ob hs P' fr H
  | [], ws, ob, hs, P, P', fr, H, k, h => by
    rw [DW_nil] at h ⊢
    exact ⟨h.1, k _ _ h.2⟩
  | o :: os, [], ob, hs, P, P', fr, H, k, h => by simp only [DW] at h
  | o :: os, (lo, hi, an) :: ws, ob, hs, P, P', fr, H, k, h => by
    simp only [DW] at h ⊢
    exact GW_mono (XW_mono fun v H hv => DW_mono k hv) (DW_mono k) h
theorem KS_mono {P P' : AFr → AHeap → Prop} {Q Q' : Post} (k : ∀ fr H, P fr H → P' fr H) (k' : ∀ ex fr H, Q ex fr H → Q' ex fr H) : ∀ ex fr H, KS P Q ex fr H → KS P' Q' ex fr H
  | .normal, _, _, h => k _ _ h
  | .ret, _, _, h => k' _ _ _ h
  | .exit _, _, _, h => k' _ _ _ h
theorem KB_mono {i : Nat} {Q Q' : Post} (k' : ∀ ex fr H, Q ex fr H → Q' ex fr H) : ∀ ex fr H, KB i Q ex fr H → KB i Q' ex fr H
  | .normal, _, _, h => k' _ _ _ h
  | .ret, _, _, h => k' _ _ _ h
  | .exit j, fr, H, h => by
    rw [KB_exit] at h ⊢
    cases hj : j.beq i <;> rw [hj] at h
    · exact k' _ _ _ h
    · exact k' _ _ _ h
theorem WP_mono {c : ACode} : ∀ {Q Q' : Post} {fr : AFr} {H : AHeap}, (∀ ex fr H, Q ex fr H → Q' ex fr H) → WP M c Q fr H → WP M c Q' fr H := by
  induction c with
  | skip => intro Q Q' fr H k h; exact k _ _ _ h
  | region ops => intro Q Q' fr H k h; exact OW_mono (k _) h
  | dregion ops ws => intro Q Q' fr H k h; exact DW_mono (k _) h
  | seq a b iha ihb => intro Q Q' fr H k h; exact iha (KS_mono (fun _ _ => ihb k) k) h
  | cond c x y ihx ihy =>
    intro Q Q' fr H k h
    unfold WP CP at h ⊢
    split at h
    · rename_i b hb
      cases b
      · exact ihy k h
      · exact ihx k h
    · cases h
  | block i c ih => intro Q Q' fr H k h; exact ih (KB_mono k) h
  | loop c ih =>
    intro Q Q' fr H k h
    obtain ⟨n, h⟩ := h
    refine ⟨n, ?_⟩
    have key : ∀ n fr H, LP (WP M c) Q n fr H → LP (WP M c) Q' n fr H := by
      intro n
      induction n with
      | zero => intro fr H h; exact h
      | succ n ihn => intro fr H h; exact ih (KS_mono ihn k) h
    exact key n fr H h
  | exit i => intro Q Q' fr H k h; exact k _ _ _ h
  | ret => intro Q Q' fr H k h; exact k _ _ _ h
  | bad w => intro Q Q' fr H k h; exact h
theorem WP_loop {c : ACode} (I : Nat → AFr → AHeap → Prop) (n : Nat) (h0 : I n fr H) (hs : ∀ n fr H, I n fr H → WP M c (KS (fun fr H => ∃ m, m < n ∧ I m fr H) Q) fr H) : WP M (.loop c) Q fr H := by
  show ∃ k, LP (WP M c) Q k fr H
  have key : ∀ k n fr H, n < k → I n fr H → LP (WP M c) Q k fr H := by
    intro k
    induction k with
    | zero => intro n fr H h; omega
    | succ k ih =>
      intro n fr H hn hi
      refine WP_mono ?_ (hs n fr H hi)
      intro ex fr' H' hq
      cases ex with
      | normal =>
        obtain ⟨m, hm, hi'⟩ := hq
        exact ih m fr' H' (by omega) hi'
      | ret => exact hq
      | exit i => exact hq
  exact ⟨n + 1, key (n + 1) n fr H (by omega) h0⟩
end
def upd {α : Type} (f : Nat → α) (i : Nat) (x : α) : Nat → α := fun j => if j = i then x else f j
theorem upd_same {α : Type} {f : Nat → α} {i : Nat} {x : α} : upd f i x i = x := by simp [upd]
theorem upd_ne {α : Type} {f : Nat → α} {i j : Nat} {x : α} (h : j ≠ i) : upd f i x j = f j := by simp [upd, h]
theorem get_put (H : AHeap) (b : Nat) (x : ABlk) (j : Nat) : (H.put b x).get j = if b = j then x else H.get j := by
  simp only [AHeap.get, AHeap.put, Tr.get_set]
  by_cases h : b = j <;> simp [h]
theorem get_new (H : AHeap) (x : ABlk) (j : Nat) : (H.new x).get j = if H.next = j then x else H.get j := by
  simp only [AHeap.get, AHeap.new, Tr.get_set]
  by_cases h : H.next = j <;> simp [h]
theorem next_put (H : AHeap) (b : Nat) (x : ABlk) : (H.put b x).next = H.next := rfl
theorem next_new (H : AHeap) (x : ABlk) : (H.new x).next = H.next + 1 := rfl
def Evo (D : Nat → Prop) (H H' : AHeap) : Prop := H.next ≤ H'.next ∧ ∀ j, j < H.next → ¬ D j → H'.get j = H.get j
theorem Evo.refl (D : Nat → Prop) (H : AHeap) : Evo D H H := ⟨Nat.le_refl _, fun _ _ _ => rfl⟩
theorem Evo.trans {D D' : Nat → Prop} {H H1 H2 : AHeap} (h : Evo D H H1) (h' : Evo D' H1 H2) (hd : ∀ j, j < H.next → D' j → D j) : Evo D H H2 :=
  ⟨Nat.le_trans h.1 h'.1, fun j hj hn => by rw [h'.2 j (Nat.lt_of_lt_of_le hj h.1) (fun hd' => hn (hd j hj hd')), h.2 j hj hn]⟩
def Blk (H : AHeap) (b n : Nat) (f : Nat → AV) : Prop := b < H.next ∧ ∃ c, H.get b = .cells c n true [] ∧ ∀ i, i < n → c.get i = some (f i)
theorem getN_one {c : Tr AV} {i : Nat} {v : AV} (h : c.get i = some v) : getN c i 1 = some [v] := by simp [getN, h]
theorem Blk.load {H : AHeap} {b n : Nat} {f : Nat → AV} (h : Blk H b n f) {i : Nat} (hi : i < n) : loadA H b i 1 = some [f i] := by
  obtain ⟨-, c, hc, hf⟩ := h
  unfold loadA
  rw [hc]
  have : (i + 1).ble n = true := Nat.ble_eq_true_of_le hi
  simp only [this, cond_true, getN_one (hf i hi)]
theorem Blk.store {H : AHeap} {b n : Nat} {f : Nat → AV} (h : Blk H b n f) {i : Nat} (hi : i < n) (v : AV) : ∃ H', storeA H b i [v] = some H' ∧ Blk H' b n (upd f i v) ∧ H'.next = H.next ∧ ∀ j, j ≠ b → H'.get j = H.get j := by
  obtain ⟨hb, c, hc, hf⟩ := h
  refine ⟨H.put b (.cells (ofL [v] i c) n true []), ?_, ⟨hb, ofL [v] i c, by rw [get_put, if_pos rfl], fun j hj => ?_⟩, rfl, fun j hj => by rw [get_put, if_neg (Ne.symm hj)]⟩
  · unfold storeA
    rw [hc]
    have : (i + [v].length).ble n = true := Nat.ble_eq_true_of_le hi
    simp only [this, cond_true, killAll]
  · rw [get_ofL]
    by_cases e : i ≤ j ∧ j < i + [v].length
    · obtain rfl : j = i := by simp at e; omega
      rw [if_pos e]; simp [upd_same]
    · rw [if_neg e, upd_ne (by intro e'; apply e; subst e'; simp), hf j hj]
theorem Blk.keep {H H' : AHeap} {b n : Nat} {f : Nat → AV} (h : Blk H b n f) {D : Nat → Prop} (e : Evo D H H') (hn : ¬ D b) : Blk H' b n f := by
  obtain ⟨hb, c, hc, hf⟩ := h
  exact ⟨Nat.lt_of_lt_of_le hb e.1, c, by rw [e.2 b hb hn]; exact hc, hf⟩
theorem Blk.keep' {H H' : AHeap} {b n : Nat} {f : Nat → AV} (h : Blk H b n f) (hl : H.next ≤ H'.next) (hg : H'.get b = H.get b) : Blk H' b n f := by
  obtain ⟨hb, c, hc, hf⟩ := h
  exact ⟨Nat.lt_of_lt_of_le hb hl, c, by rw [hg]; exact hc, hf⟩
theorem Blk.newRow (H : AHeap) (l : List AV) (f : Nat → AV) (hf : ∀ i v, l[i]? = some v → f i = v) : Blk (H.newRow l) H.next l.length f := by
  refine ⟨by simp [AHeap.newRow, next_new], ofL l 0 .nil, by rw [AHeap.newRow, get_new, if_pos rfl], fun i hi => ?_⟩
  rw [get_ofL, if_pos (by omega)]
  have : l[i - 0]? = some l[i] := by simp [hi]
  rw [this, hf i l[i] (by simp [hi])]
theorem get_newRow {H : AHeap} {l : List AV} {j : Nat} (h : j < H.next) : (H.newRow l).get j = H.get j := by rw [AHeap.newRow, get_new, if_neg (by omega)]
def Rd (H : AHeap) (x i : Nat) (cs : List AV) : Prop := x < H.next ∧ ∃ c k own par, H.get x = .cells c k own par ∧ i + cs.length ≤ k ∧ ∀ j v, cs[j]? = some v → c.get (i + j) = some v
theorem getN_eq {c : Tr AV} : ∀ (cs : List AV) (i : Nat), (∀ j v, cs[j]? = some v → c.get (i + j) = some v) → getN c i cs.length = some cs
  | [], i, h => rfl
  | v :: cs, i, h => by
    have h0 : c.get i = some v := h 0 v rfl
    have h1 := getN_eq cs (i + 1) fun j u hj => by rw [show i + 1 + j = i + (j + 1) by omega]; exact h (j + 1) u (by simpa using hj)
    simp [getN, h0, h1]
theorem Rd.load {H : AHeap} {x i : Nat} {cs : List AV} (h : Rd H x i cs) {n : Nat} (hn : cs.length = n) : loadA H x i n = some cs := by
  obtain ⟨-, c, k, own, par, hc, hk, hf⟩ := h
  subst hn
  unfold loadA
  rw [hc]
  have : (i + cs.length).ble k = true := Nat.ble_eq_true_of_le hk
  simp only [this, cond_true, getN_eq cs i hf]
theorem Rd.part {H : AHeap} {x i : Nat} {cs : List AV} (h : Rd H x i cs) (o n : Nat) : Rd H x (i + o) ((cs.drop o).take n) ∨ cs.length < o := by
  by_cases ho : o ≤ cs.length
  · left
    obtain ⟨hx, c, k, own, par, hc, hk, hf⟩ := h
    refine ⟨hx, c, k, own, par, hc, by simp; omega, fun j v hj => ?_⟩
    rw [Nat.add_assoc]
    refine hf (o + j) v ?_
    rw [List.getElem?_take] at hj
    split at hj
    · rwa [List.getElem?_drop] at hj
    · cases hj
  · right; omega
theorem Rd.one {H : AHeap} {x i : Nat} {cs : List AV} (h : Rd H x i cs) {j : Nat} {v : AV} (hv : cs[j]? = some v) : loadA H x (i + j) 1 = some [v] := by
  obtain ⟨-, c, k, own, par, hc, hk, hf⟩ := h
  have hj : j < cs.length := (List.getElem?_eq_some_iff.1 hv).1
  unfold loadA
  rw [hc]
  have : (i + j + 1).ble k = true := Nat.ble_eq_true_of_le (by omega)
  simp only [this, cond_true, getN_one (hf j v hv)]
theorem Rd.keep {H H' : AHeap} {x i : Nat} {cs : List AV} (h : Rd H x i cs) (hl : H.next ≤ H'.next) (hg : H'.get x = H.get x) : Rd H' x i cs := by
  obtain ⟨hb, c, k, own, par, hc, hk, hf⟩ := h
  exact ⟨Nat.lt_of_lt_of_le hb hl, c, k, own, par, by rw [hg]; exact hc, hk, hf⟩
theorem Rd.newRow (H : AHeap) (l : List AV) : Rd (H.newRow l) H.next 0 l := by
  refine ⟨by simp [AHeap.newRow, next_new], ofL l 0 .nil, l.length, true, [], by rw [AHeap.newRow, get_new, if_pos rfl], by omega, fun j v hj => ?_⟩
  have hl : j < l.length := (List.getElem?_eq_some_iff.1 hj).1
  rw [get_ofL, if_pos (by omega)]
  simpa using hj
def Sl (H : AHeap) (D : Nat → Prop) (s : Nat) (v : AV) (n : Nat) (cs : List AV) : Prop :=
  ((∃ s0, v = .slice none s0 0 true) ∧ cs = [] ∧ n = 0) ∨
  ∃ x i cl, v = .slice (some (x, i)) s n cl ∧ D x ∧ cs.length = n * s ∧ Rd H x i cs ∧ (cl = false → i = 0 ∧ ∃ c par, H.get x = .cells c cs.length true par)
def ub : AV → Option Nat
  | .slice (some (x, _)) _ _ false => some x
  | _ => none
def Seal (H H' : AHeap) (x : Nat) : Prop := H'.get x = H.get x ∨ ∃ c k par, H.get x = .cells c k true par ∧ H'.get x = .cells c k false par
theorem Rd.kseal {H H' : AHeap} {x i : Nat} {cs : List AV} (h : Rd H x i cs) (hl : H.next ≤ H'.next) (hs : Seal H H' x) : Rd H' x i cs := by
  rcases hs with hs | ⟨c, k, par, h1, h2⟩
  · exact h.keep hl hs
  · obtain ⟨hb, c', k', own, par', hc, hk, hf⟩ := h
    rw [h1] at hc
    injection hc with e1 e2 e3 e4
    subst e1; subst e2
    exact ⟨Nat.lt_of_lt_of_le hb hl, c, k, false, par, h2, hk, hf⟩
theorem Sl.keep {H H' : AHeap} {D : Nat → Prop} {s n : Nat} {v : AV} {cs : List AV} (h : Sl H D s v n cs) (hl : H.next ≤ H'.next) (hg : ∀ x, D x → x < H.next → H'.get x = H.get x) : Sl H' D s v n cs := by
  rcases h with h | ⟨x, i, cl, h1, h2, h3, h4, h5⟩
  · exact .inl h
  · have e := hg x h2 h4.1
    exact .inr ⟨x, i, cl, h1, h2, h3, h4.keep hl e, fun hc => by rw [e]; exact h5 hc⟩
theorem Sl.kseal {H H' : AHeap} {D : Nat → Prop} {s n : Nat} {v : AV} {cs : List AV} (h : Sl H D s v n cs) (hl : H.next ≤ H'.next) (hg : ∀ x, D x → x < H.next → Seal H H' x) (hu : ∀ x, ub v = some x → H'.get x = H.get x) : Sl H' D s v n cs := by
  rcases h with h | ⟨x, i, cl, h1, h2, h3, h4, h5⟩
  · exact .inl h
  · refine .inr ⟨x, i, cl, h1, h2, h3, h4.kseal hl (hg x h2 h4.1), fun hc => ?_⟩
    subst hc
    rw [hu x (by rw [h1]; rfl)]
    exact h5 rfl
theorem Sl.mono {H : AHeap} {D D' : Nat → Prop} {s n : Nat} {v : AV} {cs : List AV} (h : Sl H D s v n cs) (hd : ∀ x, D x → D' x) : Sl H D' s v n cs := by
  rcases h with h | ⟨x, i, cl, h1, h2, h3⟩
  · exact .inl h
  · exact .inr ⟨x, i, cl, h1, hd x h2, h3⟩
def Chg (H H' : AHeap) (u : Option Nat) : Prop := H.next ≤ H'.next ∧ ∀ x, x < H.next → Seal H H' x ∧ (u ≠ some x → H'.get x = H.get x)
theorem Chg.refl (H : AHeap) : Chg H H none := ⟨Nat.le_refl _, fun x _ => ⟨.inl rfl, fun _ => rfl⟩⟩
theorem Chg.newRow (H : AHeap) (l : List AV) : Chg H (H.newRow l) none := ⟨by simp [AHeap.newRow, next_new], fun x hx => ⟨.inl (get_newRow hx), fun _ => get_newRow hx⟩⟩
theorem Chg.trans {H H1 H2 : AHeap} {u : Option Nat} (h : Chg H H1 none) (h' : Chg H1 H2 u) : Chg H H2 u := by
  refine ⟨Nat.le_trans h.1 h'.1, fun x hx => ?_⟩
  have e := (h.2 x hx).2 (by simp)
  obtain ⟨h1, h2⟩ := h'.2 x (Nat.lt_of_lt_of_le hx h.1)
  refine ⟨?_, fun hu => by rw [h2 hu, e]⟩
  unfold Seal at h1 ⊢
  rwa [e] at h1
theorem Chg.keep {H H' : AHeap} {u : Option Nat} (h : Chg H H' u) {x : Nat} (hx : x < H.next) (hu : u ≠ some x) : H'.get x = H.get x := (h.2 x hx).2 hu
theorem srcA_slice {H : AHeap} {y iy s m : Nat} {cl : Bool} {s' : Nat} {ys : List AV} (h : Rd H y iy ys) (hm : ys.length = m * s) : srcA H s false (.slice (some (y, iy)) s' m cl) = some (ys, m) := by
  by_cases h0 : m = 0
  · subst h0
    obtain rfl : ys = [] := List.eq_nil_of_length_eq_zero (by simpa using hm)
    rfl
  · have : m.beq 0 = false := nbf h0
    simp [srcA, h.load hm, this]
theorem nbt' {a b : Nat} (h : a = b) : Nat.beq a b = true := by subst h; exact Nat.beq_refl a
theorem Rd.congr {H : AHeap} {x i : Nat} {cs cs' : List AV} (h : Rd H x i cs) (e : cs = cs') : Rd H x i cs' := e ▸ h
theorem Sl.append {H : AHeap} {str : Bool} {D : Nat → Prop} {s n bytes : Nat} {v : AV} {cs : List AV} (h : Sl H D s v n cs) {ys : List AV} {m : Nat} {yv : AV} (hy : srcA H s str yv = some (ys, m)) (hyl : ys.length = m * s) (hm : m ≠ 0)
    (hb : (n + m) * bytes ≤ 140737488355328) (hb' : n + m ≤ 140737488355328) :
    ∃ H', appendF H s bytes str v yv = some (.slice (some (H.next, 0)) s (n + m) false, H') ∧ H'.next = H.next + 1 ∧ Chg H H' (ub v) ∧ Sl H' (fun x => x = H.next) s (.slice (some (H.next, 0)) s (n + m) false) (n + m) (cs ++ ys) := by
  have hm0 : m.beq 0 = false := nbf hm
  have hbb : (((n + m) * bytes).ble 140737488355328 && (n + m).ble 140737488355328) = true := by
    rw [Nat.ble_eq_true_of_le hb, Nat.ble_eq_true_of_le hb']; rfl
  have fresh : ∀ (H0 : AHeap) (l : List AV), H0.next = H.next → l = cs ++ ys → l.length = (n + m) * s → Sl (H0.newRow l) (fun x => x = H.next) s (.slice (some (H.next, 0)) s (n + m) false) (n + m) (cs ++ ys) := by
    intro H0 l hn hl hlen
    subst hl
    have := Rd.newRow H0 (cs ++ ys)
    rw [hn] at this
    refine .inr ⟨H.next, 0, false, rfl, rfl, hlen, this, fun _ => ⟨rfl, ofL (cs ++ ys) 0 .nil, [], ?_⟩⟩
    rw [AHeap.newRow, get_new, if_pos hn]
  rcases h with ⟨⟨s0, rfl⟩, rfl, rfl⟩ | ⟨x, i, cl, rfl, hx, hl, hr, hc⟩
  · rw [Nat.zero_add] at hbb ⊢
    refine ⟨H.newRow ys, ?_, rfl, Chg.newRow H ys, ?_⟩
    · unfold appendF appendA
      simp only [hy, hm0, Nat.zero_add, hbb, cond_true, cond_false]
    · have := fresh H ys rfl rfl (by simpa using hyl)
      simpa using this
  · have hlen : (cs ++ ys).length = (n + m) * s := by rw [List.length_append, hl, hyl, Nat.add_mul]
    cases cl with
    | true =>
      refine ⟨H.newRow (cs ++ ys), ?_, rfl, ?_, fresh H _ rfl rfl hlen⟩
      · have hA : appendA H s bytes str (.slice (some (x, i)) s n true) yv = some (.slice (some (H.next, 0)) s (n + m) false, H.newRow (cs ++ ys)) := by
          unfold appendA
          simp only [hy, hm0, hbb, cond_true, cond_false, Nat.beq_refl, hr.load hl]
        unfold appendF
        cases i <;> exact hA
      · exact Chg.newRow H _
    | false =>
      obtain ⟨rfl, c, par, hg⟩ := hc rfl
      obtain ⟨hxn, c', k', own', par', hc', hk', hf⟩ := hr
      rw [hg] at hc'
      injection hc' with e1 e2 e3 e4
      subst e1; subst e2
      refine ⟨(H.put x (.cells c cs.length false par)).new (.cells (ofL ys cs.length c) (cs.length + ys.length) true (x :: par)), ?_, rfl, ⟨by simp [next_new, next_put], fun z hz => ?_⟩, ?_⟩
      · have e : (n * s).beq cs.length = true := nbt' hl.symm
        unfold appendF
        simp only [hg, e, Nat.beq_refl, Bool.and_self, cond_true, hy, hm0, cond_false, hbb]
      · have hzn : H.next ≠ z := by omega
        refine ⟨?_, fun hu => ?_⟩
        · unfold Seal
          rw [get_new, if_neg (by rw [next_put]; exact hzn), get_put]
          by_cases hzx : x = z
          · subst hzx
            exact .inr ⟨c, cs.length, par, hg, by rw [if_pos rfl]⟩
          · exact .inl (by rw [if_neg hzx])
        · rw [get_new, if_neg (by rw [next_put]; exact hzn), get_put, if_neg (by intro e; subst e; exact hu rfl)]
      · refine .inr ⟨H.next, 0, false, rfl, rfl, hlen, ⟨by simp [next_new, next_put], ofL ys cs.length c, cs.length + ys.length, true, x :: par, ?_, by simp, fun j v hj => ?_⟩, fun _ => ⟨rfl, ofL ys cs.length c, x :: par, ?_⟩⟩
        · rw [get_new, if_pos (by rfl)]
        · rw [get_ofL, Nat.zero_add]
          by_cases hjc : j < cs.length
          · rw [if_neg (by omega)]
            rw [List.getElem?_append_left hjc] at hj
            have := hf j v hj
            rwa [Nat.zero_add] at this
          · have hjl := (List.getElem?_eq_some_iff.1 hj).1
            rw [List.length_append] at hjl
            rw [if_pos (by omega)]
            rwa [List.getElem?_append_right (by omega)] at hj
        · rw [get_new, if_pos (by rfl), List.length_append]
theorem Sl.append0 {H : AHeap} {str : Bool} {D : Nat → Prop} {s n bytes : Nat} {v : AV} {cs : List AV} (h : Sl H D s v n cs) {yv : AV} (hy : srcA H s str yv = some ([], 0)) : appendF H s bytes str v yv = some (v, H) := by
  have hz : (0 : Nat).beq 0 = true := rfl
  rcases h with ⟨⟨s0, rfl⟩, rfl, rfl⟩ | ⟨x, i, cl, rfl, hx, hl, hr, hc⟩
  · unfold appendF appendA
    simp only [hy, hz, cond_true]
  · have hA : appendA H s bytes str (.slice (some (x, i)) s n cl) yv = some (.slice (some (x, i)) s n cl, H) := by
      unfold appendA
      simp only [hy, hz, cond_true]
    cases cl with
    | true => unfold appendF; cases i <;> exact hA
    | false =>
      obtain ⟨rfl, c, par, hg⟩ := hc rfl
      unfold appendF
      simp only [hg, hy, hz, cond_true]
      cases ((n * s).beq cs.length && s.beq s)
      · simp only [cond_false]; exact hA
      · simp only [cond_true]
theorem Sl.src {H : AHeap} {D : Nat → Prop} {s n : Nat} {v : AV} {cs : List AV} (h : Sl H D s v n cs) : srcA H s false v = some (cs, n) := by
  rcases h with ⟨⟨s0, rfl⟩, rfl, rfl⟩ | ⟨x, i, cl, rfl, hx, hl, hr, hc⟩
  · rfl
  · exact srcA_slice hr hl
theorem Sl.len {H : AHeap} {D : Nat → Prop} {s n : Nat} {v : AV} {cs : List AV} (h : Sl H D s v n cs) : cs.length = n * s := by
  rcases h with ⟨⟨s0, rfl⟩, rfl, rfl⟩ | ⟨x, i, cl, rfl, hx, hl, hr, hc⟩
  · simp
  · exact hl
def iv (n : Int) : AV := .int .i64 n
theorem wrap64 {n : Int} (h : -9223372036854775808 ≤ n) (h' : n ≤ 9223372036854775807) : IntKind.i64.wrap n = n := by
  simp only [IntKind.wrap, IntKind.signed, IntKind.bits]
  simp
  omega
theorem ble_dec (a b : Nat) : Nat.ble a b = decide (a ≤ b) := by
  by_cases h : a ≤ b
  · rw [Nat.ble_eq_true_of_le h]; simp [h]
  · have : Nat.ble a b = false := by
      cases e : Nat.ble a b
      · rfl
      · exact absurd (Nat.le_of_ble_eq_true e) h
    rw [this]; simp [h]
theorem beq_dec (a b : Nat) : Nat.beq a b = decide (a = b) := by
  by_cases h : a = b
  · rw [nbt h]; simp [h]
  · rw [nbf h]; simp [h]
theorem Sl.refl {H : AHeap} {D : Nat → Prop} {s n : Nat} {v : AV} {cs : List AV} (h : Sl H D s v n cs) : eqAV v v = true := by
  rcases h with ⟨⟨s0, rfl⟩, -, -⟩ | ⟨x, i, cl, rfl, -⟩ <;> simp [eqAV]
inductive SV where
  | sl (s n : Nat) (cs : List AV)
  | sc (v : AV)
def SVok (H : AHeap) (D : Nat → Prop) : SV → AV → Prop
  | .sl s n cs, v => Sl H D s v n cs
  | .sc u, v => v = u ∧ ub u = none
def Ex (D : Nat → Prop) (H H' : AHeap) (x : Nat) : Prop := D x ∨ (H.next ≤ x ∧ x < H'.next)
structure QC (H : AHeap) (b n : Nat) (f : Nat → AV) (D : Nat → Prop) (g : Nat → SV) : Prop where
  blk : Blk H b n f
  nb : ¬ D b
  dn : ∀ x, D x → x < H.next
  ok : ∀ i, i < n → SVok H D (g i) (f i)
  dis : ∀ i j x, i < n → j < n → i ≠ j → ub (f i) = some x → ub (f j) = some x → False
def Fp (H H' : AHeap) (b : Nat) (D : Nat → Prop) : Prop := H.next ≤ H'.next ∧ ∀ y, y < H.next → y ≠ b → ¬ D y → H'.get y = H.get y
def Go (H H' : AHeap) (b n : Nat) (D : Nat → Prop) (g : Nat → SV) : Prop := (∃ f, QC H' b n f (Ex D H H') g) ∧ Fp H H' b D
theorem SVok.mono {H : AHeap} {D D' : Nat → Prop} {x : SV} {v : AV} (h : SVok H D x v) (hd : ∀ x, D x → D' x) : SVok H D' x v := by
  cases x with
  | sl s n cs => exact Sl.mono h hd
  | sc u => exact h
theorem SVok.ubD {H : AHeap} {D : Nat → Prop} {x : SV} {v : AV} (h : SVok H D x v) {y : Nat} (hy : ub v = some y) : D y := by
  cases x with
  | sl s n cs =>
    rcases h with ⟨⟨s0, rfl⟩, -, -⟩ | ⟨x, i, cl, rfl, hx, -⟩
    · cases hy
    · cases cl
      · obtain rfl : x = y := Option.some.inj hy
        exact hx
      · cases hy
  | sc u => rw [h.1, h.2] at hy; cases hy
theorem SVok.kseal {H H' : AHeap} {D : Nat → Prop} {x : SV} {v : AV} (h : SVok H D x v) (hl : H.next ≤ H'.next) (hg : ∀ x, D x → x < H.next → Seal H H' x) (hu : ∀ x, ub v = some x → H'.get x = H.get x) : SVok H' D x v := by
  cases x with
  | sl s n cs => exact Sl.kseal h hl hg hu
  | sc u => exact h
theorem QC.mono {H : AHeap} {b n : Nat} {f : Nat → AV} {D D' : Nat → Prop} {g : Nat → SV} (h : QC H b n f D g) (hd : ∀ x, D x → D' x) (hb : ¬ D' b) (hn : ∀ x, D' x → x < H.next) : QC H b n f D' g :=
  ⟨h.blk, hb, hn, fun i hi => (h.ok i hi).mono hd, h.dis⟩
theorem QC.frame {H H' : AHeap} {b n b2 : Nat} {f : Nat → AV} {D D2 : Nat → Prop} {g : Nat → SV} (h : QC H b n f D g) (hf : Fp H H' b2 D2) (hb : b ≠ b2) (hb2 : ¬ D2 b) (hd : ∀ x, D x → x ≠ b2 ∧ ¬ D2 x) : QC H' b n f D g := by
  refine ⟨h.blk.keep' hf.1 (hf.2 b h.blk.1 hb hb2), h.nb, fun x hx => Nat.lt_of_lt_of_le (h.dn x hx) hf.1, fun i hi => ?_, h.dis⟩
  have e : ∀ x, D x → x < H.next → H'.get x = H.get x := fun x hx hl => hf.2 x hl (hd x hx).1 (hd x hx).2
  exact (h.ok i hi).kseal hf.1 (fun x hx hl => .inl (e x hx hl)) fun x hx => e x ((h.ok i hi).ubD hx) (h.dn x ((h.ok i hi).ubD hx))
theorem Go.of {H : AHeap} {b n : Nat} {f : Nat → AV} {D : Nat → Prop} {g : Nat → SV} (h : QC H b n f D g) : Go H H b n D g :=
  ⟨⟨f, h.mono (fun _ hx => .inl hx) (by rintro (h' | h'); exact h.nb h'; omega) (by rintro x (h' | h'); exact h.dn x h'; omega)⟩, Nat.le_refl _, fun _ _ _ _ => rfl⟩
theorem Go.trans {H H1 H2 : AHeap} {b n : Nat} {D : Nat → Prop} {g g1 : Nat → SV} (h : Go H H1 b n D g) (h' : Go H1 H2 b n (Ex D H H1) g1) : Go H H2 b n D g1 := by
  obtain ⟨⟨f1, q1⟩, l1, k1⟩ := h
  obtain ⟨⟨f, q⟩, l2, k2⟩ := h'
  have hb : b < H1.next := q1.blk.1
  refine ⟨⟨f, q.mono ?_ ?_ ?_⟩, by omega, fun y hy hyb hyd => ?_⟩
  · rintro x ((h | h) | h)
    · exact .inl h
    · exact .inr ⟨h.1, by omega⟩
    · exact .inr ⟨by omega, h.2⟩
  · intro h
    rcases h with h | h
    · exact q1.nb (.inl h)
    · exact q1.nb (.inr ⟨h.1, hb⟩)
  · rintro x (h | h)
    · have := q1.dn x (.inl h); omega
    · exact h.2
  · rw [k2 y (by omega) hyb (by rintro (h | h); exact hyd h; omega), k1 y hy hyb hyd]
theorem QC.load {H : AHeap} {b n : Nat} {f : Nat → AV} {D : Nat → Prop} {g : Nat → SV} (h : QC H b n f D g) {i : Nat} (hi : i < n) : loadA H b i 1 = some [f i] := h.blk.load hi
theorem QC.sc {H : AHeap} {b n : Nat} {f : Nat → AV} {D : Nat → Prop} {g : Nat → SV} (h : QC H b n f D g) {i : Nat} (hi : i < n) {v : AV} (hg : g i = .sc v) : f i = v := by
  have := h.ok i hi
  rw [hg] at this
  exact this.1
theorem QC.sl {H : AHeap} {b n : Nat} {f : Nat → AV} {D : Nat → Prop} {g : Nat → SV} (h : QC H b n f D g) {i : Nat} (hi : i < n) {s m : Nat} {cs : List AV} (hg : g i = .sl s m cs) : Sl H D s (f i) m cs := by
  have := h.ok i hi
  rw [hg] at this
  exact this
theorem QC.chg {H H1 : AHeap} {b n : Nat} {f : Nat → AV} {D : Nat → Prop} {g : Nat → SV} (h : QC H b n f D g) {u : Option Nat} (hc : Chg H H1 u) (hu : ∀ x, u = some x → D x) {j : Nat} (hj : j < n) : loadA H1 b j 1 = some [f j] := by
  refine (h.blk.keep' hc.1 (hc.keep h.blk.1 ?_)).load hj
  intro e
  exact h.nb (hu b e)
theorem QC.store' {H H1 : AHeap} {b n : Nat} {f : Nat → AV} {D : Nat → Prop} {g : Nat → SV} (h : QC H b n f D g) {i : Nat} (hi : i < n) {u : Option Nat} (hc : Chg H H1 u) (hu : u = none ∨ u = ub (f i)) {D' : Nat → Prop} (hd1 : ∀ y, D y → D' y) (hd2 : ∀ y, D' y → Ex D H H1 y) {x : SV} {v' : AV} (hx : SVok H1 D' x v')
    (hub : ∀ y, ub v' = some y → H.next ≤ y ∨ ub (f i) = some y) : ∃ H2, storeA H1 b i [v'] = some H2 ∧ H2.next = H1.next ∧ QC H2 b n (upd f i v') D' (upd g i x) ∧ Fp H H2 b D ∧ ∀ y, y ≠ b → H2.get y = H1.get y := by
  have hud : ∀ y, u = some y → D y := by
    intro y hy
    rcases hu with rfl | rfl
    · cases hy
    · exact (h.ok i hi).ubD hy
  have hbu : u ≠ some b := fun e => h.nb (hud b e)
  have hb1 : Blk H1 b n f := h.blk.keep' hc.1 (hc.keep h.blk.1 hbu)
  obtain ⟨H2, h1, h2, h3, h4⟩ := hb1.store hi v'
  have hnb : ¬ Ex D H H1 b := by
    rintro (h' | h')
    · exact h.nb h'
    · have := h.blk.1; omega
  have hne : ∀ y, Ex D H H1 y → y ≠ b := fun y hy e => hnb (e ▸ hy)
  refine ⟨H2, h1, h3, ⟨h2, fun hh => hnb (hd2 b hh), ?_, fun j hj => ?_, fun j k y hj hk hjk h5 h6 => ?_⟩, ⟨?_, fun y hy hyb hyd => ?_⟩, h4⟩
  · intro y hy
    rcases hd2 y hy with h' | h'
    · have := h.dn y h'; have := hc.1; omega
    · have := h'.2; omega
  · by_cases hji : j = i
    · subst hji
      rw [upd_same, upd_same]
      have hl2 : H1.next ≤ H2.next := by omega
      exact hx.kseal hl2 (fun y hy _ => .inl (h4 y (hne y (hd2 y hy)))) fun y hy => h4 y (hne y (hd2 y (hx.ubD hy)))
    · rw [upd_ne hji, upd_ne hji]
      have hj0 := (h.ok j hj)
      refine SVok.mono (D := D) ?_ hd1
      have s1 : SVok H1 D (g j) (f j) := hj0.kseal hc.1 (fun y hy hl => (hc.2 y hl).1) fun y hy => by
        refine hc.keep (h.dn y (hj0.ubD hy)) ?_
        intro e
        rcases hu with rfl | rfl
        · cases e
        · exact h.dis i j y hi hj (fun e => hji e.symm) e hy
      exact s1.kseal (by omega) (fun y hy _ => .inl (h4 y (fun e => h.nb (e ▸ hy)))) fun y hy => h4 y (fun e => h.nb (e ▸ hj0.ubD hy))
  · by_cases hji : j = i
    · subst hji
      rw [upd_same] at h5
      rw [upd_ne (fun e => hjk e.symm)] at h6
      rcases hub y h5 with hy | hy
      · have := h.dn y ((h.ok k hk).ubD h6); omega
      · exact h.dis j k y hj hk hjk hy h6
    · rw [upd_ne hji] at h5
      by_cases hki : k = i
      · subst hki
        rw [upd_same] at h6
        rcases hub y h6 with hy | hy
        · have := h.dn y ((h.ok j hj).ubD h5); omega
        · exact h.dis j k y hj hk hjk h5 hy
      · rw [upd_ne hki] at h6
        exact h.dis j k y hj hk hjk h5 h6
  · have := hc.1; omega
  · rw [h4 y hyb]
    refine hc.keep hy ?_
    intro e
    exact hyd (hud y e)
theorem QC.store {H H1 : AHeap} {b n : Nat} {f : Nat → AV} {D : Nat → Prop} {g : Nat → SV} (h : QC H b n f D g) {i : Nat} (hi : i < n) {u : Option Nat} (hc : Chg H H1 u) (hu : u = none ∨ u = ub (f i)) {x : SV} {v' : AV} (hx : SVok H1 (Ex D H H1) x v')
    (hub : ∀ y, ub v' = some y → H.next ≤ y ∨ ub (f i) = some y) : ∃ H2, storeA H1 b i [v'] = some H2 ∧ H2.next = H1.next ∧ QC H2 b n (upd f i v') (Ex D H H2) (upd g i x) ∧ Fp H H2 b D := by
  obtain ⟨H2, h1, h2, h3, h4⟩ := h.store' hi hc hu (D' := Ex D H H1) (fun y hy => .inl hy) (fun y hy => hy) hx hub
  have e : Ex D H H2 = Ex D H H1 := by unfold Ex; rw [h2]
  exact ⟨H2, h1, h2, e ▸ h3, h4.1⟩
theorem QC.step {H H1 : AHeap} {b n : Nat} {f : Nat → AV} {D : Nat → Prop} {g : Nat → SV} (h : QC H b n f D g) (hl : H.next ≤ H1.next) (hb : H1.get b = H.get b) (hg : ∀ x, D x → H1.get x = H.get x) : QC H1 b n f D g :=
  ⟨h.blk.keep' hl hb, h.nb, fun x hx => Nat.lt_of_lt_of_le (h.dn x hx) hl, fun i hi => (h.ok i hi).kseal hl (fun x hx _ => .inl (hg x hx)) fun x hx => hg x ((h.ok i hi).ubD hx), h.dis⟩
theorem QC.put {H : AHeap} {b n : Nat} {f : Nat → AV} {D : Nat → Prop} {g : Nat → SV} (h : QC H b n f D g) {i : Nat} (hi : i < n) {v : AV} (hv : ub v = none) : ∃ H2, storeA H b i [v] = some H2 ∧ H2.next = H.next ∧ QC H2 b n (upd f i v) (Ex D H H2) (upd g i (.sc v)) ∧ Fp H H2 b D :=
  h.store hi (Chg.refl H) (.inl rfl) (x := .sc v) ⟨rfl, hv⟩ (by intro y hy; rw [hv] at hy; cases hy)
theorem QC.push {H : AHeap} {b n : Nat} {f : Nat → AV} {D : Nat → Prop} {g : Nat → SV} (h : QC H b n f D g) {i : Nat} (hi : i < n) {s m bytes : Nat} {cs ys : List AV} (hg : g i = .sl s m cs) (hys : ys.length = s) (hb : (m + 1) * bytes ≤ 140737488355328) (hm : m + 1 ≤ 140737488355328) :
    ∃ H2 H3, appendF (H.newRow ys) s bytes false (f i) (.slice (some (H.next, 0)) s 1 true) = some (.slice (some (H.next + 1, 0)) s (m + 1) false, H2) ∧ storeA H2 b i [.slice (some (H.next + 1, 0)) s (m + 1) false] = some H3 ∧ (∀ j, j < n → loadA (H.newRow ys) b j 1 = some [f j]) ∧ (∀ j, j < n → loadA H2 b j 1 = some [f j]) ∧ QC H3 b n (upd f i (.slice (some (H.next + 1, 0)) s (m + 1) false)) (Ex D H H3) (upd g i (.sl s (m + 1) (cs ++ ys))) ∧ Fp H H3 b D := by
  have c1 := Chg.newRow H ys
  have hs := h.sl hi hg
  have hs1 : Sl (H.newRow ys) D s (f i) m cs := Sl.keep hs c1.1 fun x hx hl => c1.keep hl (by simp)
  have hsrc : srcA (H.newRow ys) s false (.slice (some (H.next, 0)) s 1 true) = some (ys, 1) := srcA_slice (Rd.newRow H ys) (by rw [hys, Nat.one_mul])
  obtain ⟨H2, e1, e2, e3, e4⟩ := hs1.append (bytes := bytes) hsrc (by rw [hys, Nat.one_mul]) (by omega) hb hm
  have c2 : Chg H H2 (ub (f i)) := c1.trans e3
  have hx : SVok H2 (Ex D H H2) (.sl s (m + 1) (cs ++ ys)) (.slice (some ((H.newRow ys).next, 0)) s (m + 1) false) := Sl.mono e4 fun y hy => by
    subst hy
    exact .inr ⟨c1.1, by omega⟩
  obtain ⟨H3, e5, e6, e7⟩ := h.store hi c2 (.inr rfl) (x := .sl s (m + 1) (cs ++ ys)) hx fun y hy => by
    left
    obtain rfl : (H.newRow ys).next = y := Option.some.inj hy
    exact c1.1
  exact ⟨H2, H3, e1, e5, fun j hj => h.chg c1 (by simp) hj, fun j hj => h.chg c2 (fun x hx => (h.ok i hi).ubD hx) hj, e7⟩
set_option maxRecDepth 100000
set_option maxHeartbeats 1000000
def Arr (H : AHeap) (x : Nat) (cs : List AV) (P : Nat → Prop) : Prop := x < H.next ∧ ∃ c par, H.get x = .cells c cs.length true par ∧ (∀ j v, cs[j]? = some v → c.get j = some v) ∧ ∀ z, z ∈ par → P z
theorem get_killAll : ∀ (par : List Nat) (H : AHeap) (y : Nat), y ∉ par → (killAll H par).get y = H.get y
  | [], H, y, _ => rfl
  | z :: par, H, y, h => by
    rw [killAll, get_killAll par _ y (fun e => h (List.mem_cons_of_mem _ e)), get_put, if_neg (fun e => h (by rw [e]; exact List.mem_cons_self ..))]
theorem next_killAll : ∀ (par : List Nat) (H : AHeap), (killAll H par).next = H.next
  | [], H => rfl
  | z :: par, H => by rw [killAll, next_killAll par]; rfl
theorem Arr.rd {H : AHeap} {x : Nat} {cs : List AV} {P : Nat → Prop} (h : Arr H x cs P) : Rd H x 0 cs := by
  obtain ⟨hx, c, par, hc, hf, -⟩ := h
  exact ⟨hx, c, cs.length, true, par, hc, by omega, fun j v hj => by rw [Nat.zero_add]; exact hf j v hj⟩
theorem Arr.keep {H H' : AHeap} {x : Nat} {cs : List AV} {P : Nat → Prop} (h : Arr H x cs P) (hl : H.next ≤ H'.next) (hg : H'.get x = H.get x) : Arr H' x cs P := by
  obtain ⟨hx, c, par, hc, hf, hp⟩ := h
  exact ⟨by omega, c, par, by rw [hg]; exact hc, hf, hp⟩
theorem Arr.store {H : AHeap} {x o : Nat} {cs vs cs' : List AV} {P : Nat → Prop} (h : Arr H x cs P) (ho : o + vs.length ≤ cs.length) (he : cs' = setAt cs o vs) : ∃ H', storeA H x o vs = some H' ∧ H'.next = H.next ∧ Arr H' x cs' P ∧ ∀ y, y ≠ x → ¬ P y → H'.get y = H.get y := by
  obtain ⟨hx, c, par, hc, hf, hp⟩ := h
  have hlen : cs'.length = cs.length := by rw [he]; simp [setAt]; omega
  refine ⟨(killAll H par).put x (.cells (ofL vs o c) cs.length true []), ?_, by rw [next_put, next_killAll], ⟨by rw [next_put, next_killAll]; exact hx, ofL vs o c, [], by rw [get_put, if_pos rfl, hlen], fun j v hj => ?_, by simp⟩, fun y hy hpy => ?_⟩
  · unfold storeA
    rw [hc]
    simp only [Nat.ble_eq_true_of_le ho, cond_true]
  · rw [get_ofL]
    rw [he, setAt] at hj
    by_cases h1 : o ≤ j ∧ j < o + vs.length
    · rw [if_pos h1]
      rw [List.append_assoc, List.getElem?_append_right (by simp; omega), List.getElem?_append_left (by simp; omega)] at hj
      simp only [List.length_take] at hj
      rwa [show j - min o cs.length = j - o by omega] at hj
    · rw [if_neg h1]
      refine hf j v ?_
      by_cases h2 : j < o
      · rw [List.append_assoc, List.getElem?_append_left (by simp; omega), List.getElem?_take, if_pos h2] at hj
        exact hj
      · rw [List.getElem?_append_right (by simp; omega), List.getElem?_drop] at hj
        simp only [List.length_append, List.length_take] at hj
        rwa [show o + vs.length + (j - (min o cs.length + vs.length)) = j by omega] at hj
  · rw [get_put, if_neg (Ne.symm hy), get_killAll _ _ _ (fun e => hpy (hp y e))]
section
variable {H : AHeap}
theorem Sl.push1 {H : AHeap} {D : Nat → Prop} {s n bytes : Nat} {v : AV} {cs ys : List AV} (h : Sl H D s v n cs) (hys : ys.length = s) (hb : (n + 1) * bytes ≤ 140737488355328) (hm : n + 1 ≤ 140737488355328) :
    ∃ H2, appendF (H.newRow ys) s bytes false v (.slice (some (H.next, 0)) s 1 true) = some (.slice (some (H.next + 1, 0)) s (n + 1) false, H2) ∧ H2.next = H.next + 2 ∧ Chg H H2 (ub v) ∧ Sl H2 (fun y => y = H.next + 1) s (.slice (some (H.next + 1, 0)) s (n + 1) false) (n + 1) (cs ++ ys) := by
  have c1 := Chg.newRow H ys
  have hs1 : Sl (H.newRow ys) D s v n cs := Sl.keep h c1.1 fun x hx hl => c1.keep hl (by simp)
  have hsrc : srcA (H.newRow ys) s false (.slice (some (H.next, 0)) s 1 true) = some (ys, 1) := srcA_slice (Rd.newRow H ys) (by rw [hys, Nat.one_mul])
  obtain ⟨H2, e1, e2, e3, e4⟩ := hs1.append (bytes := bytes) hsrc (by rw [hys, Nat.one_mul]) (by omega) hb hm
  exact ⟨H2, e1, e2, c1.trans e3, e4⟩
def Gw (H : AHeap) (s : Nat) (v : AV) (n : Nat) (cs : List AV) (P : Nat → Prop) : Prop := cs.length = n * s ∧
  ((∃ s0, v = .slice none s0 0 true ∧ n = 0) ∨ ∃ x, v = .slice (some (x, 0)) s n false ∧ P x ∧ Arr H x cs fun z => P z ∧ z ≠ x)
theorem Gw.sl {H : AHeap} {s n : Nat} {v : AV} {cs : List AV} {P : Nat → Prop} (h : Gw H s v n cs P) : Sl H (fun y => ub v = some y) s v n cs := by
  obtain ⟨hl, ⟨s0, rfl, rfl⟩ | ⟨x, rfl, hp, ha⟩⟩ := h
  · exact .inl ⟨⟨s0, rfl⟩, by simpa using hl, rfl⟩
  · refine .inr ⟨x, 0, false, rfl, rfl, hl, ha.rd, fun _ => ⟨rfl, ?_⟩⟩
    obtain ⟨hx, c, par, hc, hf, hp⟩ := ha
    exact ⟨c, par, hc⟩
theorem Gw.ubP {H : AHeap} {s n : Nat} {v : AV} {cs : List AV} {P : Nat → Prop} (h : Gw H s v n cs P) {y : Nat} (hy : ub v = some y) : P y := by
  obtain ⟨hl, ⟨s0, rfl, rfl⟩ | ⟨x, rfl, hp, ha⟩⟩ := h
  · cases hy
  · obtain rfl : x = y := Option.some.inj hy
    exact hp
theorem Gw.keep {H H' : AHeap} {s n : Nat} {v : AV} {cs : List AV} {P : Nat → Prop} (h : Gw H s v n cs P) (hl : H.next ≤ H'.next) (hg : ∀ y, ub v = some y → H'.get y = H.get y) : Gw H' s v n cs P := by
  obtain ⟨hl', ⟨s0, rfl, rfl⟩ | ⟨x, rfl, hp, ha⟩⟩ := h
  · exact ⟨hl', .inl ⟨s0, rfl, rfl⟩⟩
  · exact ⟨hl', .inr ⟨x, rfl, hp, ha.keep hl (hg x rfl)⟩⟩
theorem Gw.mono {H : AHeap} {s n : Nat} {v : AV} {cs : List AV} {P P' : Nat → Prop} (h : Gw H s v n cs P) (hp' : ∀ y, P y → P' y) : Gw H s v n cs P' := by
  obtain ⟨hl', ⟨s0, rfl, rfl⟩ | ⟨x, rfl, hp, hx, c, par, hc, hf, hpar⟩⟩ := h
  · exact ⟨hl', .inl ⟨s0, rfl, rfl⟩⟩
  · exact ⟨hl', .inr ⟨x, rfl, hp' x hp, hx, c, par, hc, hf, fun z hz => ⟨hp' z (hpar z hz).1, (hpar z hz).2⟩⟩⟩
theorem Gw.push {H : AHeap} {s n bytes : Nat} {v : AV} {cs ys : List AV} {P : Nat → Prop} (h : Gw H s v n cs P) (hP : ∀ z, P z → z < H.next) (hys : ys.length = s) (hb : (n + 1) * bytes ≤ 140737488355328) (hm : n + 1 ≤ 140737488355328) :
    ∃ H2, appendF (H.newRow ys) s bytes false v (.slice (some (H.next, 0)) s 1 true) = some (.slice (some (H.next + 1, 0)) s (n + 1) false, H2) ∧ H2.next = H.next + 2 ∧ Chg H H2 (ub v) ∧ Gw H2 s (.slice (some (H.next + 1, 0)) s (n + 1) false) (n + 1) (cs ++ ys) fun z => P z ∨ z = H.next + 1 := by
  have hlen : (cs ++ ys).length = (n + 1) * s := by rw [List.length_append, h.1, hys, Nat.add_mul, Nat.one_mul]
  obtain ⟨H2, e1, e2, e3, e4⟩ := h.sl.push1 (bytes := bytes) hys hb hm
  refine ⟨H2, e1, e2, e3, hlen, .inr ⟨H.next + 1, rfl, .inr rfl, ?_⟩⟩
  have hc1 := Chg.newRow H ys
  have hsrc : srcA (H.newRow ys) s false (.slice (some (H.next, 0)) s 1 true) = some (ys, 1) := srcA_slice (Rd.newRow H ys) (by rw [hys, Nat.one_mul])
  have hm0 : Nat.beq 1 0 = false := rfl
  have hbb : (((n + 1) * bytes).ble 140737488355328 && (n + 1).ble 140737488355328) = true := by rw [Nat.ble_eq_true_of_le hb, Nat.ble_eq_true_of_le hm]; rfl
  have fresh : ∀ cs' : List AV, ∃ c par, ((H.newRow ys).newRow cs').get (H.next + 1) = .cells c cs'.length true par ∧ (∀ j v, cs'[j]? = some v → c.get j = some v) ∧ ∀ z, z ∈ par → (P z ∨ z = H.next + 1) ∧ z ≠ H.next + 1 := by
    intro cs'
    refine ⟨ofL cs' 0 .nil, [], by rw [AHeap.newRow, get_new, if_pos (by rfl)], fun j v hj => ?_, by simp⟩
    have := (List.getElem?_eq_some_iff.1 hj).1
    rw [get_ofL, if_pos (by omega)]
    simpa using hj
  refine ⟨by omega, ?_⟩
  obtain ⟨hl', ⟨s0, rfl, rfl⟩ | ⟨x, rfl, hp, hx, c, par, hc, hf, hpar⟩⟩ := h
  · obtain rfl : cs = [] := by simpa using hl'
    unfold appendF appendA at e1
    simp only [Nat.zero_add] at hbb
    simp only [hsrc, hm0, hbb, cond_true, cond_false] at e1
    obtain ⟨-, rfl⟩ := Prod.mk.inj (Option.some.inj e1)
    exact fresh ys
  · have hxx : (H.newRow ys).get x = .cells c cs.length true par := by rw [get_newRow hx]; exact hc
    have hbl : (n * s).beq cs.length = true := nbt' hl'.symm
    unfold appendF at e1
    simp only [hxx, hbl, Nat.beq_refl, Bool.and_self, cond_true, hsrc, hm0, cond_false, hbb] at e1
    obtain ⟨-, rfl⟩ := Prod.mk.inj (Option.some.inj e1)
    refine ⟨ofL ys cs.length c, x :: par, ?_, fun j v hj => ?_, fun z hz => ?_⟩
    · rw [get_new, if_pos (by rfl), List.length_append]
    · have hjl := (List.getElem?_eq_some_iff.1 hj).1
      rw [List.length_append] at hjl
      rw [get_ofL]
      by_cases h1 : j < cs.length
      · rw [if_neg (by omega)]
        rw [List.getElem?_append_left h1] at hj
        exact hf j v hj
      · rw [if_pos (by omega)]
        rwa [List.getElem?_append_right (by omega)] at hj
    · have : P z := by
        rcases List.mem_cons.1 hz with rfl | hz
        · exact hp
        · exact (hpar z hz).1
      have := hP z this
      exact ⟨.inl ‹_›, by omega⟩
theorem store_new (H : AHeap) (zs vs : List AV) (hl : vs.length = zs.length) : ∃ H2, storeA (H.newRow zs) H.next 0 vs = some H2 ∧ H2.next = H.next + 1 ∧ Chg H H2 none ∧ Rd H2 H.next 0 vs := by
  have hg : (H.newRow zs).get H.next = .cells (ofL zs 0 .nil) zs.length true [] := by rw [AHeap.newRow, get_new, if_pos rfl]
  refine ⟨(H.newRow zs).put H.next (.cells (ofL vs 0 (ofL zs 0 .nil)) zs.length true []), ?_, rfl, ⟨by simp [AHeap.newRow, next_new, next_put], fun x hx => ?_⟩, ?_⟩
  · unfold storeA
    rw [hg]
    have : (0 + vs.length).ble zs.length = true := Nat.ble_eq_true_of_le (by omega)
    simp only [this, cond_true, killAll]
  · have e : ((H.newRow zs).put H.next (.cells (ofL vs 0 (ofL zs 0 .nil)) zs.length true [])).get x = H.get x := by
      rw [get_put, if_neg (by omega), get_newRow hx]
    exact ⟨.inl e, fun _ => e⟩
  · refine ⟨by simp [AHeap.newRow, next_new, next_put], _, zs.length, true, [], by rw [get_put, if_pos rfl], by omega, fun j v hj => ?_⟩
    have := (List.getElem?_eq_some_iff.1 hj).1
    rw [get_ofL, if_pos (by omega)]
    simpa using hj
theorem Chg.weak {H1 H2 : AHeap} {u : Option Nat} (h : Chg H H1 none) (h' : Chg H1 H2 u) (hu : ∀ x, u = some x → H.next ≤ x) : Chg H H2 none := by
  refine ⟨Nat.le_trans h.1 h'.1, fun x hx => ?_⟩
  have e := (h.2 x hx).2 (by simp)
  have e' := (h'.2 x (Nat.lt_of_lt_of_le hx h.1)).2 (fun e => by have := hu x e; omega)
  exact ⟨.inl (by rw [e', e]), fun _ => by rw [e', e]⟩
end
section
variable {H : AHeap}
def Sv (H : AHeap) (v : AV) (n : Nat) (cs : List AV) : Prop := ∃ a s0 cl, v = .slice a s0 n cl ∧ (n ≠ 0 → ∃ x o, a = some (x, o) ∧ Rd H x o cs)
theorem Sl.sv {D : Nat → Prop} {m n : Nat} {v : AV} {cs : List AV} (h : Sl H D m v n cs) : Sv H v n cs := by
  rcases h with ⟨⟨s0, rfl⟩, rfl, rfl⟩ | ⟨x, i, cl, rfl, -, -, hr, -⟩
  · exact ⟨none, s0, true, rfl, fun h => absurd rfl h⟩
  · exact ⟨some (x, i), m, cl, rfl, fun _ => ⟨x, i, rfl, hr⟩⟩
theorem Sv.keep {H' : AHeap} {n : Nat} {v : AV} {cs : List AV} (h : Sv H v n cs) (hc : Chg H H' none) : Sv H' v n cs := by
  obtain ⟨a, s0, cl, rfl, h⟩ := h
  refine ⟨a, s0, cl, rfl, fun hn => ?_⟩
  obtain ⟨x, o, e, hr⟩ := h hn
  exact ⟨x, o, e, Rd.keep hr hc.1 (hc.keep hr.1 (by simp))⟩
theorem Rd.sub {x o i n : Nat} {cs cs' : List AV} (h : Rd H x o cs) (hc : ∃ p q, cs = p ++ cs' ++ q ∧ p.length = i) : Rd H x (o + i) cs' := by
  obtain ⟨p, q, rfl, rfl⟩ := hc
  obtain ⟨hx, c, k, own, par, hg, hk, hf⟩ := h
  refine ⟨hx, c, k, own, par, hg, by simp at hk; omega, fun j v hj => ?_⟩
  rw [Nat.add_assoc]
  refine hf _ v ?_
  have := (List.getElem?_eq_some_iff.1 hj).1
  rw [List.append_assoc, List.getElem?_append_right (by omega), List.getElem?_append_left (by omega)]
  rwa [show p.length + j - p.length = j by omega]
end
set_option maxHeartbeats 1000000
def exRaw (call : Rec) (ms : Meth) (op : AOp) (fr : AFr) (H : AHeap) : Option (AV × AHeap) := exA call ms op fr H
def LkA (mv kv : Option AV) (g : Nat → AV → Option (AV × AHeap)) (P : Option (AV × AHeap)) : Option (AV × AHeap) := match mv, kv with
  | some (.map (some r)), some kk => g r kk
  | _, _ => P
def lookA (sh : ESh) (zero : AV) (ok : Bool) (H : AHeap) (r : Nat) (k : AV) : Option (AV × AHeap) := match H.get r with
  | .map es _ => (match findA sh k es 0 with
    | some (some (_, v, _)) => some (bif ok then .tuple [v, .bool true] else v, H)
    | some none => some (bif ok then .tuple [zero, .bool false] else zero, H)
    | none => none)
  | _ => none
def updA (sh : ESh) (H : AHeap) (v : AV) (r : Nat) (k : AV) : Option (AV × AHeap) := match H.get r with
  | .map es c => (match findA sh k es 0 with
    | some (some (i, _, b)) => some (.tuple [], H.put r (.map (es.set i (k, v, b)) c))
    | some none => some (.tuple [], H.put r (.map (es ++ [(k, v, c)]) (c + 1)))
    | none => none)
  | _ => none
def EvA (v : Option AV) (g : AV → Option AV → Option AV → Option (AV × AHeap)) (a b : Option AV) (P : Option (AV × AHeap)) : Option (AV × AHeap) := match v with
  | some v => g v a b
  | none => P
def updM (sh : ESh) (H : AHeap) (P : Option (AV × AHeap)) (v : AV) (a b : Option AV) : Option (AV × AHeap) := LkA a b (updA sh H v) P
theorem EvA_some {v : AV} {g : AV → Option AV → Option AV → Option (AV × AHeap)} {a b : Option AV} {P : Option (AV × AHeap)} : EvA (some v) g a b P = g v a b := rfl
theorem updM_some {sh : ESh} {H : AHeap} {P : Option (AV × AHeap)} {v k : AV} {r : Nat} : updM sh H P v (some (.map (some r))) (some k) = updA sh H v r k := rfl
section
variable {call : Rec} {ms : Meth} {fr : AFr} {H : AHeap} {sh : ESh} {zero : AV} {ok : Bool} {m k v : AOpnd}
theorem LkA_some {r : Nat} {kk : AV} {g : Nat → AV → Option (AV × AHeap)} {P : Option (AV × AHeap)} : LkA (some (.map (some r))) (some kk) g P = g r kk := rfl
theorem exA_lookup : exA call ms (.lookup sh zero ok m k) fr H = LkA (fr.ev m) (fr.ev k) (lookA sh zero ok H) (exRaw call ms (.lookup sh zero ok m k) fr H) := by
  unfold LkA exRaw
  split
  · rename_i r kk h1 h2
    simp only [exA, h1, h2, lookA, vl]
    cases H.get r with
    | map es c =>
      dsimp only
      rcases findA sh kk es 0 with _ | _ | ⟨i, u, b⟩ <;> rfl
    | _ => rfl
  · rfl
theorem stepA_lookup {d : Option Nat} : stepA call ms ⟨d, .lookup sh zero ok m k, none⟩ fr H = LkA (fr.ev m) (fr.ev k) (lookA sh zero ok H) (exRaw call ms (.lookup sh zero ok m k) fr H) := exA_lookup
theorem exA_mapUpd : exA call ms (.mapUpd sh m k v) fr H = EvA (fr.ev v) (updM sh H (exRaw call ms (.mapUpd sh m k v) fr H)) (fr.ev m) (fr.ev k) (exRaw call ms (.mapUpd sh m k v) fr H) := by
  unfold EvA
  split
  · rename_i vv h3
    unfold updM LkA exRaw
    split
    · rename_i r kk h1 h2
      simp only [exA, h1, h2, h3, updA]
      cases H.get r with
      | map es c => rcases findA sh kk es 0 with _ | _ | ⟨i, u, b⟩ <;> rfl
      | _ => rfl
    · rfl
  · rfl
end
structure Keyed {κ : Type} [DecidableEq κ] (sh : ESh) (kc : κ → AV) : Prop where
  eq : ∀ a b, eqA sh (kc a) (kc b) = some (decide (a = b))
  bits : ∀ a, bitsA (kc a) (kc a) = true
def fset {κ ν : Type} [DecidableEq κ] (f : κ → ν) (k : κ) (v : ν) : κ → ν := fun j => if j = k then v else f j
theorem fset_same {κ ν : Type} [DecidableEq κ] {f : κ → ν} {k : κ} {v : ν} : fset f k v k = v := by simp [fset]
theorem fset_ne {κ ν : Type} [DecidableEq κ] {f : κ → ν} {k j : κ} {v : ν} (h : j ≠ k) : fset f k v j = f j := by simp [fset, h]
set_option linter.unusedSectionVars false
section
variable {κ ν : Type} [DecidableEq κ] {sh : ESh} {kc : κ → AV} {vc : ν → AV}
def encM (kc : κ → AV) (vc : ν → AV) (l : List (κ × ν × Nat)) : List (AV × AV × Nat) := l.map fun e => (kc e.1, vc e.2.1, e.2.2)
theorem find_no (hk : Keyed sh kc) {k : κ} : ∀ (l : List (κ × ν × Nat)) (i : Nat), (∀ e, e ∈ l → e.1 ≠ k) → findA sh (kc k) (encM kc vc l) i = some none
  | [], i, _ => by
    have h : fitA sh (kc k) = true := by
      unfold fitA
      split
      · rfl
      · rw [hk.eq]; simp
    simp only [encM, List.map_nil, findA, h, cond_true]
  | e :: l, i, h => by
    have h1 : eqA sh (kc k) (kc e.1) = some false := by rw [hk.eq, decide_eq_false (Ne.symm (h e (List.mem_cons_self ..)))]
    show findA sh (kc k) ((kc e.1, vc e.2.1, e.2.2) :: encM kc vc l) i = some none
    simp only [findA, h1]
    exact find_no hk l (i + 1) fun e he => h e (List.mem_cons_of_mem _ he)
theorem find_yes (hk : Keyed sh kc) {k : κ} {v : ν} {n : Nat} {l2 : List (κ × ν × Nat)} : ∀ (l1 : List (κ × ν × Nat)) (i : Nat), (∀ e, e ∈ l1 → e.1 ≠ k) → findA sh (kc k) (encM kc vc (l1 ++ (k, v, n) :: l2)) i = some (some (i + l1.length, vc v, n))
  | [], i, _ => by
    have h1 : eqA sh (kc k) (kc k) = some true := by rw [hk.eq]; simp
    show findA sh (kc k) ((kc k, vc v, n) :: encM kc vc l2) i = _
    simp only [findA, h1, hk.bits, cond_true]
    rfl
  | e :: l1, i, h => by
    have h1 : eqA sh (kc k) (kc e.1) = some false := by rw [hk.eq, decide_eq_false (Ne.symm (h e (List.mem_cons_self ..)))]
    show findA sh (kc k) ((kc e.1, vc e.2.1, e.2.2) :: encM kc vc (l1 ++ (k, v, n) :: l2)) i = _
    simp only [findA, h1]
    rw [find_yes hk l1 (i + 1) fun e he => h e (List.mem_cons_of_mem _ he)]
    simp; omega
structure MapL (kc : κ → AV) (vc : ν → AV) (H : AHeap) (r : Nat) (f : κ → Option ν) (l : List (κ × ν × Nat)) (c : Nat) : Prop where
  lt : r < H.next
  get : H.get r = .map (encM kc vc l) c
  keys : (l.map (·.1)).Nodup
  born : (l.map (·.2.2)).Nodup
  old : ∀ e, e ∈ l → e.2.2 < c
  val : ∀ k v, f k = some v ↔ ∃ n, (k, v, n) ∈ l
def MR (kc : κ → AV) (vc : ν → AV) (H : AHeap) (r : Nat) (f : κ → Option ν) : Prop := ∃ l c, MapL kc vc H r f l c
def Ch (r : Nat) (H H' : AHeap) : Prop := H'.next = H.next ∧ ∀ x, x ≠ r → H'.get x = H.get x
theorem Ch.put (H : AHeap) (r : Nat) (x : ABlk) : Ch r H (H.put r x) := ⟨rfl, fun y hy => by rw [get_put, if_neg (Ne.symm hy)]⟩
theorem Ch.trans {r : Nat} {H H1 H2 : AHeap} (h : Ch r H H1) (h' : Ch r H1 H2) : Ch r H H2 := ⟨by rw [h'.1, h.1], fun x hx => by rw [h'.2 x hx, h.2 x hx]⟩
theorem loadA_congr {H H' : AHeap} {b i n : Nat} (h : H'.get b = H.get b) : loadA H' b i n = loadA H b i n := by unfold loadA; rw [h]
theorem Ch.load {r : Nat} {H H' : AHeap} (h : Ch r H H') {b i n : Nat} (hb : b ≠ r) : loadA H' b i n = loadA H b i n := loadA_congr (h.2 b hb)
theorem MR.keep {H H' : AHeap} {r : Nat} {f : κ → Option ν} (h : MR kc vc H r f) (hl : H.next ≤ H'.next) (hg : H'.get r = H.get r) : MR kc vc H' r f := by
  obtain ⟨l, c, h⟩ := h
  exact ⟨l, c, by have := h.lt; omega, by rw [hg]; exact h.get, h.keys, h.born, h.old, h.val⟩
theorem MapL.no {H : AHeap} {r : Nat} {f : κ → Option ν} {l : List (κ × ν × Nat)} {c : Nat} (h : MapL kc vc H r f l c) {k : κ} (hf : f k = none) : ∀ e, e ∈ l → e.1 ≠ k := by
  rintro ⟨k', v, n⟩ he rfl
  have := (h.val k' v).2 ⟨n, he⟩
  rw [hf] at this
  cases this
theorem MapL.yes {H : AHeap} {r : Nat} {f : κ → Option ν} {l : List (κ × ν × Nat)} {c : Nat} (h : MapL kc vc H r f l c) {k : κ} {v : ν} (hf : f k = some v) : ∃ l1 n l2, l = l1 ++ (k, v, n) :: l2 ∧ (∀ e, e ∈ l1 → e.1 ≠ k) ∧ ∀ e, e ∈ l2 → e.1 ≠ k := by
  obtain ⟨n, hn⟩ := (h.val k v).1 hf
  obtain ⟨l1, l2, rfl⟩ := List.append_of_mem hn
  have hk := h.keys
  rw [List.map_append, List.map_cons, List.nodup_append] at hk
  refine ⟨l1, n, l2, rfl, fun e he hek => ?_, fun e he hek => ?_⟩
  · exact hk.2.2 e.1 (List.mem_map_of_mem he) k (List.mem_cons_self ..) hek
  · have := (List.nodup_cons.1 hk.2.1).1
    exact this (by have := List.mem_map_of_mem (f := (·.1)) he; rwa [hek] at this)
variable (hk : Keyed sh kc) {H : AHeap} {r : Nat} {f : κ → Option ν}
include hk
theorem MR.look_no (h : MR kc vc H r f) {k : κ} (hf : f k = none) {zero : AV} {ok : Bool} : lookA sh zero ok H r (kc k) = some (bif ok then .tuple [zero, .bool false] else zero, H) := by
  obtain ⟨l, c, h⟩ := h
  unfold lookA
  simp only [h.get, find_no hk l 0 (h.no hf)]
theorem MR.look_yes (h : MR kc vc H r f) {k : κ} {v : ν} (hf : f k = some v) {zero : AV} {ok : Bool} : lookA sh zero ok H r (kc k) = some (bif ok then .tuple [vc v, .bool true] else vc v, H) := by
  obtain ⟨l, c, h⟩ := h
  obtain ⟨l1, n, l2, rfl, h1, -⟩ := h.yes hf
  unfold lookA
  simp only [h.get, find_yes hk l1 0 h1]
theorem MapL.upd_no {l : List (κ × ν × Nat)} {c : Nat} (h : MapL kc vc H r f l c) {k : κ} (hf : f k = none) (v : ν) {H' : AHeap} (hl : H.next ≤ H'.next) (hg : H'.get r = .map (encM kc vc l ++ [(kc k, vc v, c)]) (c + 1)) : MR kc vc H' r (fset f k (some v)) := by
  have hn := h.no hf
  refine ⟨l ++ [(k, v, c)], c + 1, Nat.lt_of_lt_of_le h.lt hl, by rw [hg]; simp [encM], ?_, ?_, fun e he => ?_, fun j u => ?_⟩
  · rw [List.map_append, List.nodup_append]
    refine ⟨h.keys, by simp, fun a ha b hb => ?_⟩
    obtain ⟨e, he, rfl⟩ := List.mem_map.1 ha
    obtain rfl : b = k := by simpa using hb
    exact hn e he
  · rw [List.map_append, List.nodup_append]
    refine ⟨h.born, by simp, fun a ha b hb => ?_⟩
    obtain ⟨e, he, rfl⟩ := List.mem_map.1 ha
    obtain rfl : b = c := by simpa using hb
    have := h.old e he
    omega
  · rcases List.mem_append.1 he with he | he
    · have := h.old e he; omega
    · obtain rfl : e = (k, v, c) := by simpa using he
      simp
  · by_cases hj : j = k
    · subst hj
      rw [fset_same]
      constructor
      · rintro ⟨⟩
        exact ⟨c, by simp⟩
      · rintro ⟨n, hm⟩
        rcases List.mem_append.1 hm with hm | hm
        · exact absurd rfl (hn _ hm)
        · simp at hm
          rw [hm.1]
    · rw [fset_ne hj, h.val]
      constructor
      · rintro ⟨n, hm⟩
        exact ⟨n, List.mem_append_left _ hm⟩
      · rintro ⟨n, hm⟩
        rcases List.mem_append.1 hm with hm | hm
        · exact ⟨n, hm⟩
        · simp at hm
          exact absurd hm.1 hj
theorem MapL.upd_yes {l1 l2 : List (κ × ν × Nat)} {c n : Nat} {k : κ} {v0 : ν} (h : MapL kc vc H r f (l1 ++ (k, v0, n) :: l2) c) (h1 : ∀ e, e ∈ l1 → e.1 ≠ k) (h2 : ∀ e, e ∈ l2 → e.1 ≠ k) (v : ν) {H' : AHeap} (hl : H.next ≤ H'.next) (hg : H'.get r = .map (encM kc vc (l1 ++ (k, v, n) :: l2)) c) : MR kc vc H' r (fset f k (some v)) := by
  refine ⟨l1 ++ (k, v, n) :: l2, c, Nat.lt_of_lt_of_le h.lt hl, hg, by simpa using h.keys, by simpa using h.born, fun e he => ?_, fun j u => ?_⟩
  · have ho := h.old
    rcases List.mem_append.1 he with he | he
    · exact ho e (List.mem_append_left _ he)
    · rcases List.mem_cons.1 he with rfl | he
      · exact ho (k, v0, n) (by simp)
      · exact ho e (by simp [he])
  · by_cases hj : j = k
    · subst hj
      rw [fset_same]
      constructor
      · rintro ⟨⟩
        exact ⟨n, by simp⟩
      · rintro ⟨m, hm⟩
        rcases List.mem_append.1 hm with hm | hm
        · exact absurd rfl (h1 _ hm)
        · rcases List.mem_cons.1 hm with hm | hm
          · simp at hm; rw [hm.1]
          · exact absurd rfl (h2 _ hm)
    · rw [fset_ne hj, h.val]
      constructor
      · rintro ⟨m, hm⟩
        refine ⟨m, ?_⟩
        rcases List.mem_append.1 hm with hm | hm
        · exact List.mem_append_left _ hm
        · rcases List.mem_cons.1 hm with hm | hm
          · simp at hm; exact absurd hm.1 hj
          · simp [hm]
      · rintro ⟨m, hm⟩
        refine ⟨m, ?_⟩
        rcases List.mem_append.1 hm with hm | hm
        · exact List.mem_append_left _ hm
        · rcases List.mem_cons.1 hm with hm | hm
          · simp at hm; exact absurd hm.1 hj
          · simp [hm]
omit hk in
theorem encM_set {l1 l2 : List (κ × ν × Nat)} {k : κ} {v0 v : ν} {n : Nat} : (encM kc vc (l1 ++ (k, v0, n) :: l2)).set l1.length (kc k, vc v, n) = encM kc vc (l1 ++ (k, v, n) :: l2) := by
  simp [encM]
theorem MR.upd (h : MR kc vc H r f) (k : κ) (v : ν) : ∃ H1, updA sh H (vc v) r (kc k) = some (.tuple [], H1) ∧ MR kc vc H1 r (fset f k (some v)) ∧ Ch r H H1 := by
  obtain ⟨l, c, h⟩ := h
  cases hf : f k with
  | none =>
    refine ⟨_, ?_, h.upd_no hk hf v (by exact Nat.le_refl _) (by rw [get_put, if_pos rfl]), Ch.put ..⟩
    unfold updA
    simp only [h.get, find_no hk l 0 (h.no hf)]
  | some v0 =>
    obtain ⟨l1, n, l2, rfl, h1, h2⟩ := h.yes hf
    refine ⟨_, ?_, h.upd_yes hk h1 h2 v (by exact Nat.le_refl _) (by rw [get_put, if_pos rfl]), Ch.put ..⟩
    unfold updA
    simp only [h.get, find_yes hk l1 0 h1, Nat.zero_add, encM_set]
omit hk in
theorem MR.new (H : AHeap) : MR kc vc (H.new (.map [] 0)) H.next (fun _ : κ => (none : Option ν)) :=
  ⟨[], 0, by simp [next_new], by rw [get_new, if_pos rfl]; rfl, by simp, by simp, by simp, by simp⟩
end
def pl (p : Int × Int) : AV := .agg [.int .i64 p.1, .int .i64 p.2]
theorem at0 {α : Type} {a : α} {l : List α} : (a :: l)[0]? = some a := rfl
theorem at1 {α : Type} {a b : α} {l : List α} : (a :: b :: l)[1]? = some b := rfl
def updL (f : Nat → AV) (i : Nat) (vs : List AV) : Nat → AV := fun j => if i ≤ j then (match vs[j - i]? with | some v => v | none => f j) else f j
theorem Blk.congr {H : AHeap} {b n : Nat} {f f' : Nat → AV} (h : Blk H b n f) (e : ∀ i, i < n → f i = f' i) : Blk H b n f' := by
  obtain ⟨hb, c, hc, hf⟩ := h
  exact ⟨hb, c, hc, fun i hi => by rw [← e i hi]; exact hf i hi⟩
theorem Blk.rd {H : AHeap} {b n : Nat} {f : Nat → AV} (h : Blk H b n f) {i : Nat} {vs : List AV} (hi : i + vs.length ≤ n) (e : ∀ (j : Nat) v, vs[j]? = some v → f (i + j) = v) : Rd H b i vs := by
  obtain ⟨hb, c, hc, hf⟩ := h
  refine ⟨hb, c, n, true, [], hc, hi, fun j v hj => ?_⟩
  have := (List.getElem?_eq_some_iff.1 hj).1
  rw [hf (i + j) (by omega), e j v hj]
theorem Blk.load2 {H : AHeap} {b n : Nat} {f : Nat → AV} (h : Blk H b n f) {i : Nat} (hi : i + 2 ≤ n) : loadA H b i 2 = some [f i, f (i + 1)] :=
  (h.rd (i := i) (vs := [f i, f (i + 1)]) hi fun j v hj => by
    match j, hj with
    | 0, hj => simpa using hj
    | 1, hj => simpa using hj).load rfl
theorem Blk.stores {H : AHeap} {b n : Nat} {f : Nat → AV} (h : Blk H b n f) {i : Nat} {vs : List AV} (hi : i + vs.length ≤ n) : ∃ H', storeA H b i vs = some H' ∧ Blk H' b n (updL f i vs) ∧ Ch b H H' := by
  obtain ⟨hb, c, hc, hf⟩ := h
  refine ⟨H.put b (.cells (ofL vs i c) n true []), ?_, ⟨hb, ofL vs i c, by rw [get_put, if_pos rfl], fun j hj => ?_⟩, Ch.put ..⟩
  · unfold storeA
    rw [hc]
    have : (i + vs.length).ble n = true := Nat.ble_eq_true_of_le hi
    simp only [this, cond_true, killAll]
  · rw [get_ofL]
    unfold updL
    by_cases e : i ≤ j ∧ j < i + vs.length
    · rw [if_pos e, if_pos e.1]
      have : vs[j - i]? = some vs[j - i] := List.getElem?_eq_getElem (by omega)
      rw [this]
    · rw [if_neg e, hf j hj]
      by_cases h1 : i ≤ j
      · rw [if_pos h1]
        have : vs[j - i]? = none := List.getElem?_eq_none (by omega)
        rw [this]
      · rw [if_neg h1]
theorem Blk.new (H : AHeap) (l : List AV) {n : Nat} (hn : l.length = n) : Blk (H.newRow l) H.next n (updL (fun _ => .nilFunc) 0 l) := by
  subst hn
  exact Blk.newRow H l _ fun i v hv => by simp [updL, hv]
abbrev Sm (H H' : AHeap) : Prop := Chg H H' none
theorem Chg.gt {H H' : AHeap} (h : Sm H H') {x : Nat} (hx : x < H.next) : H'.get x = H.get x := h.keep hx (by simp)
theorem Sm.of {H H' : AHeap} (hl : H.next ≤ H'.next) (hg : ∀ x, x < H.next → H'.get x = H.get x) : Sm H H' := ⟨hl, fun x hx => ⟨.inl (hg x hx), fun _ => hg x hx⟩⟩
theorem Chg.ch {H H1 H2 : AHeap} {r : Nat} (h : Sm H H1) (hr : H.next ≤ r) (h' : Ch r H1 H2) : Sm H H2 := Sm.of (by rw [h'.1]; exact h.1) fun x hx => by rw [h'.2 x (by omega), h.gt hx]
theorem Chg.ld {H H' : AHeap} (h : Sm H H') {b : Nat} (hb : b < H.next) {i n : Nat} : loadA H' b i n = loadA H b i n := loadA_congr (h.gt hb)
theorem Evo.of_sm {D : Nat → Prop} {H H' : AHeap} (h : Sm H H') : Evo D H H' := ⟨h.1, fun x hx _ => h.gt hx⟩
theorem Evo.then {D D' : Nat → Prop} {H H1 H2 : AHeap} (h : Evo D H H1) (h' : Evo D' H1 H2) (hd : ∀ j, j < H.next → D' j → D j) : Evo D H H2 := h.trans h' hd
theorem Evo.sm {D : Nat → Prop} {H H' : AHeap} (h : Evo D H H') (hd : ∀ x, D x → H.next ≤ x) : Sm H H' := Sm.of h.1 fun x hx => h.2 x hx fun e => by have := hd x e; omega
theorem Rd.pre {H : AHeap} {x i : Nat} {cs : List AV} (h : Rd H x i cs) (n : Nat) : Rd H x i (cs.take n) := by
  obtain ⟨hx, c, k, own, par, hc, hk, hf⟩ := h
  refine ⟨hx, c, k, own, par, hc, by rw [List.length_take]; omega, fun j v hj => ?_⟩
  rw [List.getElem?_take] at hj
  split at hj
  · exact hf j v hj
  · cases hj
theorem convA_str {H : AHeap} {b i s n : Nat} {c : Bool} {l : List AV} {r : List Nat} (h : loadA H b i n = some l) (ht : toInts l = some r) : convA .toStr (.slice (some (b, i)) s n c) H = some (.str r, H) := by
  by_cases h0 : n = 0
  · subst h0
    have hl : l = [] := by
      unfold loadA at h
      split at h
      · rename_i c m _ _ _
        cases hm : (i + 0).ble m <;> rw [hm] at h
        · cases h
        · exact (Option.some.inj h).symm
      · cases h
    subst hl
    obtain rfl : r = [] := (Option.some.inj ht).symm
    rfl
  · have : n.beq 0 = false := nbf h0
    simp [convA, h, ht, vl, this]
end Go.Proofs.YtojeldemfccilaaGreatDoor.AA
