/- Keys of maps: whole numbers; structs of two. -/
import Derived.Test.YtldlolpbnfgdeaaKMap
import Derived.Laws.StructEq
namespace Go.Proofs.Ytldlolpbnfgdeaa
open Go Go.RowKit
section
variable {P : Program} {T : TypeId}
theorem chk_int (hT : P.underlying T = some (.int .i64)) (b : Bool) (n : Nat) (x : Int) (w : World) : (Instr.checkKey b (n + 1) T (.int .i64 x)).run P w = .ok () w := by
  unfold Instr.checkKey
  simp only [Sem.run_bind, run_underlying hT, Result.andThen_ok, Sem.run_pure]
theorem keyInt (hT : P.underlying T = some (.int .i64)) : KeyT P T i64v where
  chk := fun b k w => by
    show (Instr.checkKey b (9999 + 1) T (.int .i64 k)).run P w = _
    unfold Instr.checkKey
    simp only [Sem.run_bind, run_underlying hT, Result.andThen_ok, Sem.run_pure]
  same := fun k => by simp [i64v, Instr.sameBits]
  find := fun k ks es w h => by
    have key : ∀ (ks : List Int) (es : List MapEntry) (i : Nat), es.map (·.key) = ks.map i64v →
        Instr.findNow (.int .i64) (i64v k) es i = some ((ks.idxOf? k).bind fun j => (es[j]?).map fun e => (i + j, e.val)) := by
      intro ks
      induction ks with
      | nil =>
        intro es i h
        have : es = [] := by simpa using h
        subst this
        simp [Instr.findNow]
      | cons a ks ih =>
        intro es i h
        cases es with
        | nil => simp at h
        | cons e es =>
          simp only [List.map_cons, List.cons.injEq] at h
          unfold Instr.findNow
          rw [h.1]
          simp only [i64v, Instr.sameNow, if_true]
          by_cases ha : k = a
          · subst ha
            simp [List.idxOf?_cons]
          · have h1 : (k == a) = false := by simpa using ha
            have h2 : (a == k) = false := by simpa using fun e => ha e.symm
            simp only [h1, List.idxOf?_cons, h2, Bool.false_eq_true, if_false]
            have := ih es (i + 1) h.2
            simp only [i64v] at this
            rw [this]
            cases ks.idxOf? k with
            | none => simp
            | some j => simp [Nat.add_assoc, Nat.add_comm 1 j]
    have := key ks es 0 h
    simp only [Instr.findKey, Sem.run_bind, run_underlying hT, Result.andThen_ok, this, Sem.run_pure, Nat.zero_add]

/-- Keys that are compared by '==' alone. -/
theorem find_asking {κ : Type} [DecidableEq κ] {ek : κ → Value} (hE : ∀ (a b : κ) (w : World), (Op.equal T (ek a) (ek b)).run P w = .ok (decide (a = b)) w) (k : κ) (w : World) :
    ∀ (ks : List κ) (es : List MapEntry) (i : Nat), es.map (·.key) = ks.map ek → (Instr.findAsking T (ek k) es i).run P w = .ok ((ks.idxOf? k).bind fun j => (es[j]?).map fun e => (i + j, e.val)) w := by
  intro ks
  induction ks with
  | nil =>
    intro es i h
    have : es = [] := by simpa using h
    subst this
    simp [Instr.findAsking]
  | cons a ks ih =>
    intro es i h
    cases es with
    | nil => simp at h
    | cons e es =>
      simp only [List.map_cons, List.cons.injEq] at h
      unfold Instr.findAsking
      rw [h.1]
      simp only [Sem.run_bind, hE, Result.andThen_ok]
      by_cases ha : k = a
      · subst ha
        simp [List.idxOf?_cons]
      · have h2 : (a == k) = false := by simpa using fun e => ha e.symm
        simp only [ha, decide_false, Bool.false_eq_true, if_false, List.idxOf?_cons, h2]
        rw [ih es (i + 1) h.2]
        cases ks.idxOf? k with
        | none => simp
        | some j => simp [Nat.add_assoc, Nat.add_comm 1 j]
def pairv (p : Int × Int) : Value := .agg #[.int .i64 p.1, .int .i64 p.2]
theorem keyAgg {κ : Type} [DecidableEq κ] {ek : κ → Value} {fs : Array Field} (hT : P.underlying T = some (.struct fs)) (hA : ∀ k, ∃ cs, ek k = .agg cs)
    (hE : ∀ (a b : κ) (w : World), (Op.equal T (ek a) (ek b)).run P w = .ok (decide (a = b)) w) (hC : ∀ (b : Bool) (k : κ) (w : World), (Instr.checkKey b 10000 T (ek k)).run P w = .ok () w)
    (hS : ∀ k, Instr.sameBits 10000 (ek k) (ek k) = true) : KeyT P T ek where
  chk := hC
  same := hS
  find := fun k ks es w h => by
    have ha := find_asking (P := P) (T := T) hE k w ks es 0 h
    simp only [Nat.zero_add] at ha
    simp only [Instr.findKey, Sem.run_bind, run_underlying hT, Result.andThen_ok]
    cases es with
    | nil =>
      have : ks = [] := by simpa using h.symm
      subst this
      simp [Instr.findNow]
    | cons e es =>
      have hn : Instr.findNow (.struct fs) (ek k) (e :: es) 0 = none := by
        obtain ⟨cs, hcs⟩ := hA k
        unfold Instr.findNow
        rw [hcs]
        rfl
      rw [hn]
      exact ha
end
end Go.Proofs.Ytldlolpbnfgdeaa
