/- known: the chapter's runs. -/
import Derived.Test.YtldlolpbnfgdeaaKSameS
import Derived.Test.YtldlolpbnfgdeaaKMade
namespace Go.Proofs.Ytldlolpbnfgdeaa
open Go Go.RowKit

theorem SRep.alloc {w : World} {p : Nat} {L : List SObj} {F : List Nat} (h : SRep w p L F) (o : Obj) : SRep (w.alloc o) p L F := h.frame fun b hb => Below.heap_alloc _ _ _ (h.lt b hb)
theorem rd_lit (w : World) (t : TypeId) (cs : List Value) (n : Nat) (hn : cs.length = n) : Rd (w.alloc (.cells cs.toArray t)) 1 n (.slice (some ⟨w.heap.size, 0, none⟩) n n) cs := by
  subst hn
  refine ⟨by simp, _, _, rfl, Nat.le_refl _, fun _ => ⟨_, _, rfl, by simp, fun j u hu => ?_⟩⟩
  rw [cell_of_blk (heap_alloc_new w _)]
  simpa using hu
theorem Rd.alloc {w : World} {sz n : Nat} {v : Value} {cells : List Value} (h : Rd w sz n v cells) (o : Obj) : Rd (w.alloc o) sz n v cells := h.mod0 ((Mod.refl _ _).step o)
theorem rd_lit2 (w : World) (o : Obj) (t : TypeId) (cs : List Value) (n : Nat) (hn : cs.length = n) : Rd ((w.alloc o).alloc (.cells cs.toArray t)) 1 n (.slice (some ⟨w.heap.size + 1, 0, none⟩) n n) cs := by
  have := rd_lit (w.alloc o) t cs n hn
  simpa using this
theorem rd_nil (w : World) : Rd w 1 0 (.slice none 0 0) [] := ⟨rfl, none, 0, rfl, Nat.le_refl _, fun h => by omega⟩

theorem s_reach_nil (a : Option Addr) (n cap : Nat) (w : World) : Calls Try.prog 18 #[.nilIface, .slice a n cap] w fun e w' => e = .returned (.slice none 0 0) ∧ w = w' := by
  go_enter Try.func18, Try.ntmps18
  go_wp2
  go_ret
  exact ⟨rfl, rfl⟩

/-- The runs' store. -/
def LK : List SObj := [(2, [2, 10]), (2, []), (1, [8])]
theorem fit_LK : Fit LK := by
  refine ⟨by simp [LK], ?_, ?_⟩
  · intro o ho; simp [LK] at ho; rcases ho with rfl | rfl | rfl <;> simp
  · intro o ho; simp [LK] at ho; rcases ho with rfl | rfl | rfl <;> simp
/-- A store of one's own. -/
def KS (w0 w : World) (p : Nat) (L : List SObj) : Prop := ∃ F, SRep w p L F ∧ Mod [] w0 w ∧ ∀ b ∈ F, w0.heap.size ≤ b
section
variable {w0 w : World} {p : Nat} {L : List SObj}
theorem KS.alloc (h : KS w0 w p L) (o : Obj) : KS w0 (w.alloc o) p L := by
  obtain ⟨F, h1, h2, h3⟩ := h
  exact ⟨F, h1.alloc o, h2.step o, h3⟩
theorem KS.mod {w' : World} (h : KS w0 w p L) (hm : Mod [] w w') : KS w0 w' p L := by
  obtain ⟨F, h1, h2, h3⟩ := h
  exact ⟨F, h1.mod hm (by simp), h2.trans hm (by simp), h3⟩
theorem k_new (w : World) : Calls Try.prog 48 #[] w fun e w' => ∃ p, e = .returned (.pointer (some ⟨p, 0, none⟩)) ∧ KS w w' p [] := by
  refine (store_new w).mono ?_
  rintro e w' ⟨rfl, rfl⟩
  refine ⟨_, rfl, [w.heap.size], ⟨.slice none 0 0, [], ⟨heap_alloc_new w _, Own.nil _ _ _, rfl, by simp, by simp [ob, Value.ownBlock]⟩, by simp [irF, ob, Value.ownBlock]⟩, (Mod.refl _ _).step _, by simp⟩
theorem k_alloc (h : KS w0 w p L) (cls : Int) (k : Nat) (n c : Int) (hc : (k : Int) = c) (hn : 4 + (L.length : Int) = n) (h0 : 0 ≤ cls) (h1 : cls ≤ 4095) (hk : k ≤ 62) (hl : L.length ≤ 1073741823) :
    Calls Try.prog 49 #[.pointer (some ⟨p, 0, none⟩), .int .i64 cls, .int .i64 c] w fun e w' => e = .returned (.int .i64 n) ∧ KS w0 w' p (L ++ [(cls, List.replicate k 2)]) := by
  obtain ⟨F, g1, g2, g3⟩ := h
  subst hc hn
  refine (s_alloc cls k g1 h0 h1 hk hl).mono ?_
  rintro e w' ⟨F', rfl, e1, e2, e3⟩
  refine ⟨rfl, F', e1, g2.trans e2 (fun b hb => .inr (g3 b hb)), fun b hb => ?_⟩
  have := g2.size
  rcases e3 b hb with h | h
  · exact g3 b h
  · omega
theorem k_put (h : KS w0 w p L) (id i : Int) (x y : Nat) (c : Int) (hc : (x : Int) = c) (hid : -1073741824 ≤ id) (hid' : id ≤ 4294967296) (hn : L.length ≤ 1073741824) (hw : ∀ o ∈ L, o.2.length ≤ 62) (hf : fldO L id i = some y) (hx0 : x ≠ 0) :
    Calls Try.prog 52 #[.pointer (some ⟨p, 0, none⟩), .int .i64 id, .int .i64 i, .int .u32 c] w fun e w' => e = .returned (.bool true) ∧ KS w0 w' p (putO L id i x) := by
  obtain ⟨F, g1, g2, g3⟩ := h
  subst hc
  refine (s_put id i x y g1 hid hid' hn hw hf hx0).mono ?_
  rintro e w' ⟨rfl, e1, e2⟩
  exact ⟨rfl, F, e1, g2.trans e2 (fun b hb => .inr (g3 b hb)), g3⟩
end
section
variable {w0 w : World} {p : Nat} (h : KS w0 w p LK)
include h
theorem k_reach (v : Value) (hv : Rd w 1 3 v [.int .u32 12, .int .u32 9, .int .u32 10]) : Calls Try.prog 18 #[.iface 25 (.pointer (some ⟨p, 0, none⟩)), v] w fun e w' => ∃ u, e = .returned u ∧ Rd w' 1 3 u [.int .i64 6, .int .i64 4, .int .i64 5] ∧ KS w0 w' p LK := by
  have hk := h
  obtain ⟨F, h, -⟩ := h
  refine (s_reach v [12, 9, 10] h fit_LK hv (by simp) (by simp)).mono ?_
  rintro e w' ⟨u, rfl, h1, -, h2⟩
  rw [show reachP LK [12, 9, 10] = [6, 4, 5] by kernel_rfl] at h1
  exact ⟨u, rfl, h1, hk.mod h2⟩
theorem k_reach0 : Calls Try.prog 18 #[.iface 25 (.pointer (some ⟨p, 0, none⟩)), .slice none 0 0] w fun e w' => ∃ a cap, e = .returned (.slice a 0 cap) ∧ KS w0 w' p LK := by
  have hk := h
  obtain ⟨F, h, -⟩ := h
  refine (s_reach _ [] h fit_LK (rd_nil w) (by simp) (by simp)).mono ?_
  rintro e w' ⟨u, rfl, h1, -, h2⟩
  obtain ⟨a, cap, rfl, -⟩ := h1.val
  exact ⟨a, cap, rfl, hk.mod h2⟩
theorem k_same (v u : Value) (x y : Nat) (b : Bool) (c d : Int) (hc : (x : Int) = c) (hd : (y : Int) = d) (hx : x < 4294967296) (hy : y < 4294967296) (hb : sameAllP LK [x] LK [y] = b) (hv : Rd w 1 1 v [.int .u32 c]) (hu : Rd w 1 1 u [.int .u32 d]) :
    Calls Try.prog 20 #[.iface 25 (.pointer (some ⟨p, 0, none⟩)), v, .iface 25 (.pointer (some ⟨p, 0, none⟩)), u] w fun e w' => e = .returned (.bool b) ∧ KS w0 w' p LK := by
  rw [← hb]
  subst hc hd
  have hk := h
  obtain ⟨F, h, -⟩ := h
  refine (s_same fit_LK fit_LK v u [x] [y] h h hv hu (by simpa using hx) (by simpa using hy) (by simp) (by simp)).mono ?_
  rintro e w' ⟨rfl, h2⟩
  exact ⟨rfl, hk.mod h2⟩
theorem k_same0 : Calls Try.prog 20 #[.iface 25 (.pointer (some ⟨p, 0, none⟩)), .slice none 0 0, .iface 25 (.pointer (some ⟨p, 0, none⟩)), .slice none 0 0] w fun e w' => e = .returned (.bool true) ∧ KS w0 w' p LK := by
  rw [← show sameAllP LK [] LK [] = true by kernel_rfl]
  have hk := h
  obtain ⟨F, h, -⟩ := h
  refine (s_same fit_LK fit_LK _ _ [] [] h h (rd_nil w) (rd_nil w) (by simp) (by simp) (by simp) (by simp)).mono ?_
  rintro e w' ⟨rfl, h2⟩
  exact ⟨rfl, hk.mod h2⟩
theorem k_eq (v u : Value) (hx : Rd w 1 3 v [.int .i64 6, .int .i64 4, .int .i64 5]) (hy : Rd w 1 3 u [.int .i64 6, .int .i64 4, .int .i64 5]) : Calls Try.prog 17 #[v, u] w fun e w' => e = .returned (.bool true) ∧ KS w0 w' p LK := by
  refine (same_int v u [6, 4, 5] [6, 4, 5] w hx hy (by simp) (by simp)).mono ?_
  rintro e w' ⟨rfl, h2⟩
  exact ⟨rfl, h.mod h2⟩
end
theorem lk_1 : putO ([] ++ [((2 : Int), List.replicate 2 2)] ++ [((2 : Int), List.replicate 0 2)] ++ [((1 : Int), List.replicate 1 2)]) 4 1 10 = [(2, [2, 10]), (2, []), (1, [2])] := by kernel_rfl
theorem lk_2 : putO [(2, [2, 10]), (2, []), (1, [2])] 6 0 8 = LK := by kernel_rfl

set_option maxHeartbeats 2000000 in
set_option maxRecDepth 100000 in
theorem l_known (w : World) : Calls Try.prog 22 #[] w fun e w' => e = .returned (.bool true) ∧ Mod [] w w' := by
  go_enter Try.func22, Try.ntmps22
  go_wp2_with (first | (go_at_call 48; refine (k_new w).mono ?_; rintro e w1 ⟨p, rfl, h1⟩) | (go_at_call_of 49 (Value.int .i64 0); refine (k_alloc h2 2 0 5 0 rfl rfl (by omega) (by omega) (by omega) (by simp)).mono ?_; rintro e w3 ⟨rfl, h3⟩) | (go_at_call_of 49 (Value.int .i64 1); refine (k_alloc h3 1 1 6 1 rfl rfl (by omega) (by omega) (by omega) (by simp)).mono ?_; rintro e w4 ⟨rfl, h4⟩) | (go_at_call 49; refine (k_alloc h1 2 2 4 2 rfl rfl (by omega) (by omega) (by omega) (by simp)).mono ?_; rintro e w2 ⟨rfl, h2⟩))
  go_wp2_with (first | (go_at_call_of 52 (Value.int .u32 10); refine (k_put h4 4 1 10 2 10 rfl (by omega) (by omega) (by simp) (by simp) (by kernel_rfl) (by omega)).mono ?_; rintro e w5 ⟨rfl, h5⟩; rw [lk_1] at h5) | (go_at_call_of 52 (Value.int .u32 8); refine (k_put h5 6 0 8 2 8 rfl (by omega) (by omega) (by simp) (by simp) (by kernel_rfl) (by omega)).mono ?_; rintro e w6 ⟨rfl, h6⟩; rw [lk_2] at h6))
  go_wp2_with (first | (go_at_call_of 18 (Value.slice none 0 0); refine (k_reach0 h8).mono ?_; rintro e w9 ⟨ra, rc, rfl, h9⟩) | (go_at_call_of 18 Value.nilIface; refine (s_reach_nil _ _ _ _).mono ?_; rintro e w' ⟨rfl, rfl⟩) | (go_at_call 18; refine (k_reach (h6.alloc _) _ (rd_lit _ _ _ 3 rfl)).mono ?_; rintro e w7 ⟨u, rfl, hu, h7⟩) | (go_at_call 17; refine (k_eq (h7.alloc _) _ _ (hu.alloc _) (rd_lit _ _ _ 3 rfl)).mono ?_; rintro e w8 ⟨rfl, h8⟩) | (go_at_call_of 20 (Value.slice none 0 0); refine (k_same0 h9).mono ?_; rintro e w10 ⟨rfl, h10⟩) | (go_at_call_of 20 (Value.slice (some ⟨w10.heap.size, 0, none⟩) 1 1); refine (k_same ((h10.alloc _).alloc _) _ _ 9 9 true 9 9 rfl rfl (by omega) (by omega) (by kernel_rfl) ((rd_lit _ _ _ 1 rfl).alloc _) (rd_lit2 _ _ _ _ 1 rfl)).mono ?_; rintro e w11 ⟨rfl, h11⟩) | (go_at_call_of 20 (Value.slice (some ⟨w11.heap.size, 0, none⟩) 1 1); refine (k_same ((h11.alloc _).alloc _) _ _ 9 11 false 9 11 rfl rfl (by omega) (by omega) (by kernel_rfl) ((rd_lit _ _ _ 1 rfl).alloc _) (rd_lit2 _ _ _ _ 1 rfl)).mono ?_; rintro e w12 ⟨rfl, h12⟩) | (go_at_call_of 20 (Value.slice (some ⟨w12.heap.size, 0, none⟩) 1 1); refine (k_same ((h12.alloc _).alloc _) _ _ 8 10 false 8 10 rfl rfl (by omega) (by omega) (by kernel_rfl) ((rd_lit _ _ _ 1 rfl).alloc _) (rd_lit2 _ _ _ _ 1 rfl)).mono ?_; rintro e w13 ⟨rfl, h13⟩))
  go_ret
  refine ⟨rfl, ?_⟩
  obtain ⟨F, -, hm, -⟩ := h13.alloc (.cells #[.int .u32 8] 44)
  exact hm
end Go.Proofs.Ytldlolpbnfgdeaa
