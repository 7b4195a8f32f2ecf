import Derived.Test.YtcojfnjpcpochaaDoorZ096d3a98
import Derived.Test.YtcojfnjpcpochaaDoorZd0d55b88
import Derived.Test.YtcojfnjpcpochaaDoorZ2cfab5ff
import Derived.Test.YtcojfnjpcpochaaDoorZbb7870ae
import Derived.Lib.ConvBytes
section
namespace Go.Proofs.YtcojfnjpcpochaaDoor.E
open Go Go.RowKit Go.Proofs.YtcojfnjpcpochaaDoor.V
attribute [local go_sem] B_size B_append B_extract mk_B B_toList take_drop_len List.length_drop List.length_take sgn32 sgn64 add32 sub32 mul32 add64 sub64 mul64 mul64_8 and32 or32 xor32 and64 or64 xor64 shl32_run shr32_run shl64_run shr64_run not32 not32' xor32_all w_u32_u8 w_u64_u8 w_i64_u8 w_u8_u32 w_u8_u64 w_u32_u64 w_u64_u32 w_u8_u8 w_u32_u32 w_u64_u64
attribute [local go_sem ↓] run_index_B' add32 sub32 mul32 add64 sub64 mul64 mul64_8 and32 or32 xor32 and64 or64 xor64 shl32_run shr32_run shl64_run shr64_run not32 not32' xor32_all w_u32_u8 w_u64_u8 w_i64_u8 w_u8_u32 w_u8_u64 w_u32_u64 w_u64_u32 w_u8_u8 w_u32_u32 w_u64_u64 w_u64_nat w_u32_nat w_u8_nat
set_option maxRecDepth 4000
theorem joinL_s (f : Nat → Txw) (n : Nat) : joinL f (n + 1) = joinL f n ++ f n := rfl
theorem ends_in (f : Nat → Txw) (n : Nat) (hn : n ≤ 10) (h : ∀ c, c < n → (f c).length = 16) : (input 4 (endsL f n)).length ≤ 140737488355328 := by
  have := inL_len 4 (endsL f n) 16 (fun p hp => by
    obtain ⟨c, hc, rfl⟩ := List.mem_map.1 hp
    rw [h c (by simpa using hc)]
    exact Nat.le_refl _)
  rw [endsL_length] at this
  have h2 : n * (16 + 4) ≤ 10 * (16 + 4) := Nat.mul_le_mul_right _ hn
  omega
theorem pub_in (seed : Txw) (leaf : Int) : (input 4 (endsL (pubF seed leaf) 10)).length ≤ 140737488355328 := ends_in _ 10 (Nat.le_refl _) fun c _ => pubF_length seed leaf c
theorem digitsT_lt (msg : Txw) (i : Nat) : el (digitsT msg) i < 16 := digits_lt (tag 1 [msg]) i
theorem B_nil : B [] = { data := #[] } := rfl
attribute [local irreducible] sum tag input laidN wstep walkT secretT joinL endsL digitsT
theorem pubF_eq (seed : Txw) (leaf : Int) (c : Nat) : walkT (c : Int) 0 15 (secretT seed leaf c) = pubF seed leaf c := rfl
theorem signF_eq (seed : Txw) (leaf : Int) (d : List Nat) (c : Nat) : walkT (c : Int) 0 ((el d c : Nat) : Int) (secretT seed leaf c) = signF seed leaf d c := rfl
theorem endsL_0 (f : Nat → Txw) : endsL f 0 = [] := by unfold endsL; rfl
theorem joinL_0 (f : Nat → Txw) : joinL f 0 = [] := by unfold joinL; rfl
attribute [local irreducible] pubF signF fromF
theorem rpub_fc {G : List (Nat × Array Value)} (hr : RefIn G) (seed : Txw) (leaf : Int) (hv : seed.length ≤ 140737488355264) : FC Tryd.prog G 28 [sA seed, .v (.int .i64 leaf)] [] (sA (pubT seed leaf)) [] := by
  have htag := rtag_fc hr.1 hr.2 4 (endsL (pubF seed leaf) 10) (pub_in seed leaf)
  rw [endsL_length] at htag
  refine FC.of_wp [4] Tryd.func28 rfl rfl rfl rfl (by first | trivial | (simp; first | done | fail) | exact ⟨trivial, hbel _⟩) (by first | trivial | (simp; first | done | fail) | exact ⟨trivial, hbel _⟩) (by exact Nat.le_of_ble_eq_true rfl) ?_
  intro A hG hnA hAB
  unfold start
  refine WP.rs hG ?_
  refine Ch.asg rfl rfl ?_
  refine Ch.nil ?_
  refine WP.rs hG ?_
  refine Ch.al gdN (by exact ⟨rfl, trivial⟩) (OpS.assignTip 0 9 1) (by first | exact trivial | exact ⟨rfl, trivial⟩) (by first | exact trivial | exact ⟨rfl, trivial⟩ | exact ⟨rfl, rfl, trivial⟩) rfl ?_
  refine Ch.nil ?_
  refine WP.seq ?_
  refine WP.rs hG ?_
  refine Ch.asg rfl rfl ?_
  refine Ch.nil ?_
  refine WP.block ?_
  refine WP.loop (fun k σ => ∃ m : Nat, m + k = 10 ∧ σ = ⟨22, ls [(0, sA seed), (1, .v (.int .i64 leaf)), (5, .sl (some 0) m ((endsL (pubF seed leaf) m).map sA)), (6, .v (.int .i64 (m : Int)))], lh [(0, .tip 9 1 m)], blt 1⟩) (10) (Ent.of [] ?_ ?_ ?_ ?_).se ⟨0, by omega, rfl⟩ ?_
  · exact (fun i hi => by rw [hnA] at hi; simp only [List.length_cons, List.length_nil] at hi ⊢; first | exact absurd hi (Nat.not_lt_zero _) | (revert i; decide))
  · (repeat (first | exact trivial | (refine And.intro ⟨(by first | trivial | (simp; first | done | fail) | exact ⟨trivial, hbel _⟩), _, rfl, (by first | exact .rfl _ | exact .nil | exact .of_eq (by simp [endsL_0]; first | done | fail) | exact AV.wk.sh (by simp [endsL_0]; first | done | fail) | exact .untip _ _ _)⟩ ?_)))
  · (repeat (first | exact trivial | (refine And.intro ⟨rfl, (by first | trivial | (simp; first | done | fail) | exact ⟨trivial, hbel _⟩), (by first | rfl | (simp [endsL_0]; first | done | fail))⟩ ?_)))
  · simp [rn]
  · rintro k σ ⟨m, hm', rfl⟩
    have hs1 := endsL_succ (pubF seed leaf) m
    have hl1 := endsL_length (pubF seed leaf) m
    have hw := rwalk_fc hr (m : Int) 0 15 (secretT seed leaf m) (by rw [secretT_length]; decide) (by decide) (by decide)
    rw [pubF_eq] at hw
    refine WP.seq ?_
    refine WP.rs hG ?_
    refine Ch.mv rfl rfl ?_
    refine Ch.pu gdN (by exact ⟨rfl, rfl, trivial⟩) (OpS.int rfl (by first | exact wr64 (by omega) | exact rfl)) trivial rfl ?_
    refine Ch.nil ?_
    refine WP.cond rfl ?_ ?_
    · intro ht
      have ht' := of_decide_eq_true ht
      refine WP.skip ?_
      refine WP.seq ?_
      refine WP.block ?_
      refine WP.rg hG ?_
      refine Ch.mv rfl rfl ?_
      refine Ch.mv rfl rfl ?_
      refine Ch.mv rfl rfl ?_
      refine Ch.mv rfl rfl ?_
      refine Ch.mv rfl rfl ?_
      refine Ch.callP (rsecret_fc hr seed leaf (m : Int) hv) gdN (by repeat (first | exact EvL.nil | (apply EvL.cons; exact rfl))) (by exact (And.intro (by first | exact .rfl _ | exact .untip _ _ _ | exact .nil | exact .func _ | exact AV.wk.sh (renL_s _ _) | exact AV.wk.sh (by simp; first | done | fail)) (And.intro (by first | exact .rfl _ | exact .untip _ _ _ | exact .nil | exact .func _ | exact AV.wk.sh (renL_s _ _) | exact AV.wk.sh (by simp; first | done | fail)) (And.intro (by first | exact .rfl _ | exact .untip _ _ _ | exact .nil | exact .func _ | exact AV.wk.sh (renL_s _ _) | exact AV.wk.sh (by simp; first | done | fail)) trivial)))) (by rfl) rfl ?_
      refine Ch.callP (hw) gdN (by repeat (first | exact EvL.nil | (apply EvL.cons; exact rfl))) (by exact (And.intro (by first | exact .rfl _ | exact .untip _ _ _ | exact .nil | exact .func _ | exact AV.wk.sh (renL_s _ _) | exact AV.wk.sh (by simp; first | done | fail)) (And.intro (by first | exact .rfl _ | exact .untip _ _ _ | exact .nil | exact .func _ | exact AV.wk.sh (renL_s _ _) | exact AV.wk.sh (by simp; first | done | fail)) (And.intro (by first | exact .rfl _ | exact .untip _ _ _ | exact .nil | exact .func _ | exact AV.wk.sh (renL_s _ _) | exact AV.wk.sh (by simp; first | done | fail)) (And.intro (by first | exact .rfl _ | exact .untip _ _ _ | exact .nil | exact .func _ | exact AV.wk.sh (renL_s _ _) | exact AV.wk.sh (by simp; first | done | fail)) trivial))))) (by rfl) rfl ?_
      refine Ch.pup gdN (by repeat (first | exact EvP.nil | (apply EvP.cons; exact rfl))) (OpS.slice1 rfl rfl rfl rfl rfl rfl (by rfl) rfl (by rfl)) rfl ?_
      refine Ch.al gdN (by exact ⟨rfl, rfl, trivial⟩) (OpS.append (sz := 1) (bb := 16) 1 rfl rfl rfl rfl rfl (by decide) (SrcA.sl rfl (by simp)) (by first | (simp; done) | (simp; assumption)) (by simp) (by unfold maxLen; omega) rfl (by omega)) (by first | exact trivial | exact ⟨rfl, trivial⟩) (by first | exact trivial | exact ⟨rfl, trivial⟩ | exact ⟨rfl, rfl, trivial⟩) rfl ?_
      refine Ch.asg rfl rfl ?_
      refine Ch.nil ?_
      refine WP.rg hG ?_
      refine Ch.mv rfl rfl ?_
      refine Ch.pu gdN (by exact ⟨rfl, rfl, trivial⟩) (OpS.int rfl (by first | exact wr64 (by omega) | exact rfl)) trivial rfl ?_
      refine Ch.asg rfl rfl ?_
      refine Ch.nil ?_
      refine ⟨k - 1, _, by omega, (Ent.of [1] ?_ ?_ ?_ ?_).se, m + 1, by omega, rfl⟩
      · exact (fun i hi => by rw [hnA] at hi; simp only [List.length_cons, List.length_nil] at hi ⊢; first | exact absurd hi (Nat.not_lt_zero _) | (revert i; decide))
      · (repeat (first | exact trivial | (refine And.intro ⟨(by first | trivial | (simp; first | done | fail) | exact ⟨trivial, hbel _⟩), _, rfl, (by first | exact .rfl _ | exact .nil | exact .of_eq (by simp [hs1]; first | done | fail) | exact AV.wk.sh (by simp [hs1]; first | done | fail) | exact .untip _ _ _)⟩ ?_)))
      · (repeat (first | exact trivial | (refine And.intro ⟨rfl, (by first | trivial | (simp; first | done | fail) | exact ⟨trivial, hbel _⟩), (by first | rfl | (simp [hs1]; first | done | fail))⟩ ?_)))
      · simp [rn]
    · intro ht
      have ht' := of_decide_eq_false ht
      obtain rfl : m = 10 := by omega
      refine WP.exit ?_
      refine WP.rs hG ?_
      refine Ch.mv rfl rfl ?_
      refine Ch.callP (htag) gdN (by repeat (first | exact EvL.nil | (apply EvL.cons; exact rfl))) (by exact (And.intro (by first | exact .rfl _ | exact .untip _ _ _ | exact .nil | exact .func _ | exact AV.wk.sh (renL_s _ _) | exact AV.wk.sh (by simp; first | done | fail)) (And.intro (by first | exact .rfl _ | exact .untip _ _ _ | exact .nil | exact .func _ | exact AV.wk.sh (renL_s _ _) | exact AV.wk.sh (by simp; first | done | fail)) trivial))) (by rfl) rfl ?_
      refine Ch.asg rfl rfl ?_
      refine Ch.nil ?_
      exact WP.ret (Ret.one rfl (.of_eq (by unfold pubT; simp)) trivial hnA)
theorem rsign_fc {G : List (Nat × Array Value)} (hr : RefIn G) (seed : Txw) (leaf : Int) (msg : Txw) (hv : seed.length ≤ 140737488355264) (hmsg : msg.length ≤ 140737488355264) : FC Tryd.prog G 32 [sA seed, .v (.int .i64 leaf), sA msg] [] (sA (signT seed leaf msg)) [] := by
  have hdl := digitsT_length msg
  refine FC.of_wp [6] Tryd.func32 rfl rfl rfl rfl (by first | trivial | (simp; first | done | fail) | exact ⟨trivial, hbel _⟩) (by first | trivial | (simp; first | done | fail) | exact ⟨trivial, hbel _⟩) (by exact Nat.le_of_ble_eq_true rfl) ?_
  intro A hG hnA hAB
  unfold start
  refine WP.rs hG ?_
  refine Ch.asg rfl rfl ?_
  refine Ch.nil ?_
  refine WP.rs hG ?_
  refine Ch.mv rfl rfl ?_
  refine Ch.callS (rdigits_fc hr msg hmsg) gdN (by repeat (first | exact EvL.nil | (apply EvL.cons; exact rfl))) (by exact (And.intro (by first | exact .rfl _ | exact .untip _ _ _ | exact .nil | exact .func _ | exact AV.wk.sh (renL_s _ _) | exact AV.wk.sh (by simp; first | done | fail)) trivial)) (by first | rfl | simp) rfl ?_
  refine Ch.asg rfl rfl ?_
  refine Ch.nil ?_
  refine WP.rs hG ?_
  refine Ch.asg rfl rfl ?_
  refine Ch.nil ?_
  refine WP.seq ?_
  refine WP.rs hG ?_
  refine Ch.asg rfl rfl ?_
  refine Ch.nil ?_
  refine WP.block ?_
  refine WP.loop (fun k σ => ∃ m : Nat, m + k = 10 ∧ σ = ⟨29, ls [(0, sA seed), (1, .v (.int .i64 leaf)), (7, .sl none (digitsT msg).length ((digitsT msg).map nA)), (8, sA (joinL (signF seed leaf (digitsT msg)) m)), (9, .v (.int .i64 (m : Int)))], lh [], blt 0⟩) (10) (Ent.of [] ?_ ?_ ?_ ?_).se ⟨0, by omega, rfl⟩ ?_
  · exact (fun i hi => by rw [hnA] at hi; simp only [List.length_cons, List.length_nil] at hi ⊢; first | exact absurd hi (Nat.not_lt_zero _) | (revert i; decide))
  · (repeat (first | exact trivial | (refine And.intro ⟨(by first | trivial | (simp; first | done | fail) | exact ⟨trivial, hbel _⟩), _, rfl, (by first | exact .rfl _ | exact .nil | exact .of_eq (by simp [joinL_0, B_nil]; first | done | fail) | exact AV.wk.sh (by simp [joinL_0, B_nil]; first | done | fail) | exact .untip _ _ _)⟩ ?_)))
  · (repeat (first | exact trivial | (refine And.intro ⟨rfl, (by first | trivial | (simp; first | done | fail) | exact ⟨trivial, hbel _⟩), (by first | rfl | (simp [joinL_0, B_nil]; first | done | fail))⟩ ?_)))
  · simp [rn]
  · rintro k σ ⟨m, hm', rfl⟩
    have hs1 := joinL_s (signF seed leaf (digitsT msg)) m
    have hl1 := joinL_length _ (signF_length seed leaf (digitsT msg)) m
    have hd := digitsT_lt msg m
    have hw := rwalk_fc hr (m : Int) 0 ((el (digitsT msg) m : Nat) : Int) (secretT seed leaf m) (by rw [secretT_length]; decide) (by decide) (by omega)
    rw [signF_eq] at hw
    have hsl := signF_length seed leaf (digitsT msg) m
    refine WP.seq ?_
    refine WP.rs hG ?_
    refine Ch.mv rfl rfl ?_
    refine Ch.pu gdN (by exact ⟨rfl, rfl, trivial⟩) (OpS.int rfl (by first | exact wr64 (by omega) | exact rfl)) trivial rfl ?_
    refine Ch.nil ?_
    refine WP.cond rfl ?_ ?_
    · intro ht
      have ht' := of_decide_eq_true ht
      refine WP.skip ?_
      refine WP.seq ?_
      refine WP.block ?_
      refine WP.rgD (by kernel_rfl) hG ?_
      refine Ch.mv rfl rfl ?_
      refine Ch.mv rfl rfl ?_
      refine Ch.mv rfl rfl ?_
      refine Ch.mv rfl rfl ?_
      refine Ch.pu gdN (by exact ⟨rfl, rfl, trivial⟩) (OpS.indexM rfl rfl rfl (by first | with_reducible exact Int.toNat_natCast _ | with_reducible exact tnLit _ _ | with_reducible exact tnLitA _ _ | with_reducible exact tnL _ | with_reducible exact tnA _ _ | with_reducible exact tnM _ _ | with_reducible exact tnMA _ _ _ | exact rfl) (by omega) (by omega) (by first | rfl | (simp; done) | omega)) trivial rfl ?_
      refine Ch.pu gdN (by exact ⟨rfl, trivial⟩) (OpS.loadS rfl rfl) trivial rfl ?_
      refine Ch.mv rfl rfl ?_
      refine Ch.mv rfl rfl ?_
      refine Ch.mv rfl rfl ?_
      refine Ch.callP (rsecret_fc hr seed leaf (m : Int) hv) gdN (by repeat (first | exact EvL.nil | (apply EvL.cons; exact rfl))) (by exact (And.intro (by first | exact .rfl _ | exact .untip _ _ _ | exact .nil | exact .func _ | exact AV.wk.sh (renL_s _ _) | exact AV.wk.sh (by simp; first | done | fail)) (And.intro (by first | exact .rfl _ | exact .untip _ _ _ | exact .nil | exact .func _ | exact AV.wk.sh (renL_s _ _) | exact AV.wk.sh (by simp; first | done | fail)) (And.intro (by first | exact .rfl _ | exact .untip _ _ _ | exact .nil | exact .func _ | exact AV.wk.sh (renL_s _ _) | exact AV.wk.sh (by simp; first | done | fail)) trivial)))) (by rfl) rfl ?_
      refine Ch.callP (hw) gdN (by repeat (first | exact EvL.nil | (apply EvL.cons; exact rfl))) (by exact (And.intro (by first | exact .rfl _ | exact .untip _ _ _ | exact .nil | exact .func _ | exact AV.wk.sh (renL_s _ _) | exact AV.wk.sh (by simp; first | done | fail)) (And.intro (by first | exact .rfl _ | exact .untip _ _ _ | exact .nil | exact .func _ | exact AV.wk.sh (renL_s _ _) | exact AV.wk.sh (by simp; first | done | fail)) (And.intro (by first | exact .rfl _ | exact .untip _ _ _ | exact .nil | exact .func _ | exact AV.wk.sh (renL_s _ _) | exact AV.wk.sh (by simp; first | done | fail)) (And.intro (by first | exact .rfl _ | exact .untip _ _ _ | exact .nil | exact .func _ | exact AV.wk.sh (renL_s _ _) | exact AV.wk.sh (by simp; first | done | fail)) trivial))))) (by rfl) rfl ?_
      refine Ch.pu gdN (by exact ⟨rfl, rfl, trivial⟩) (OpS.strAdd (by omega)) trivial rfl ?_
      refine Ch.asg rfl rfl ?_
      refine Ch.nilD ?_ (by kernel_rfl)
      refine WP.rg hG ?_
      refine Ch.mv rfl rfl ?_
      refine Ch.pu gdN (by exact ⟨rfl, rfl, trivial⟩) (OpS.int rfl (by first | exact wr64 (by omega) | exact rfl)) trivial rfl ?_
      refine Ch.asg rfl rfl ?_
      refine Ch.nil ?_
      refine ⟨k - 1, _, by omega, (Ent.of [] ?_ ?_ ?_ ?_).se, m + 1, by omega, rfl⟩
      · exact (fun i hi => by rw [hnA] at hi; simp only [List.length_cons, List.length_nil] at hi ⊢; first | exact absurd hi (Nat.not_lt_zero _) | (revert i; decide))
      · (repeat (first | exact trivial | (refine And.intro ⟨(by first | trivial | (simp; first | done | fail) | exact ⟨trivial, hbel _⟩), _, rfl, (by first | exact .rfl _ | exact .nil | exact .of_eq (by simp [hs1]; first | done | fail) | exact AV.wk.sh (by simp [hs1]; first | done | fail) | exact .untip _ _ _)⟩ ?_)))
      · (repeat (first | exact trivial | (refine And.intro ⟨rfl, (by first | trivial | (simp; first | done | fail) | exact ⟨trivial, hbel _⟩), (by first | rfl | (simp [hs1]; first | done | fail))⟩ ?_)))
      · simp [rn]
    · intro ht
      have ht' := of_decide_eq_false ht
      obtain rfl : m = 10 := by omega
      refine WP.exit ?_
      refine WP.rs hG ?_
      refine Ch.mv rfl rfl ?_
      refine Ch.asg rfl rfl ?_
      refine Ch.nil ?_
      exact WP.ret (Ret.one rfl (.of_eq (by unfold signT; rfl)) trivial hnA)
end Go.Proofs.YtcojfnjpcpochaaDoor.E
end
section
namespace Go.Proofs.YtcojfnjpcpochaaDoor.E
open Go Go.RowKit Go.Proofs.YtcojfnjpcpochaaDoor.V
attribute [local go_sem] B_size B_append B_extract mk_B B_toList take_drop_len List.length_drop List.length_take sgn32 sgn64 add32 sub32 mul32 add64 sub64 mul64 mul64_8 and32 or32 xor32 and64 or64 xor64 shl32_run shr32_run shl64_run shr64_run not32 not32' xor32_all w_u32_u8 w_u64_u8 w_i64_u8 w_u8_u32 w_u8_u64 w_u32_u64 w_u64_u32 w_u8_u8 w_u32_u32 w_u64_u64
attribute [local go_sem ↓] run_index_B' add32 sub32 mul32 add64 sub64 mul64 mul64_8 and32 or32 xor32 and64 or64 xor64 shl32_run shr32_run shl64_run shr64_run not32 not32' xor32_all w_u32_u8 w_u64_u8 w_i64_u8 w_u8_u32 w_u8_u64 w_u32_u64 w_u64_u32 w_u8_u8 w_u32_u32 w_u64_u64 w_u64_nat w_u32_nat w_u8_nat
set_option maxRecDepth 4000
theorem el_lt (msg : Txw) (c : Nat) : nget (digitsT msg) c < 16 := digits_lt (tag 1 [msg]) c
attribute [local irreducible] sum tag input laidN wstep walkT secretT digitsT
def vals (l : List Tx16) : List Txw := l.map (·.1)
theorem vals_append (a b : List Tx16) : vals (a ++ b) = vals a ++ vals b := List.map_append
theorem vals_length (l : List Tx16) : (vals l).length = l.length := List.length_map ..
theorem vals_one (x : Tx16) : vals [x] = [x.1] := rfl
theorem vals_in (l : List Tx16) (h : l.length ≤ 10) : (input 4 (vals l)).length ≤ 140737488355328 := by
  have := inL_len 4 (vals l) 16 fun p hp => by
    obtain ⟨x, _, rfl⟩ := List.mem_map.1 hp
    exact x.2
  rw [vals_length] at this
  omega
theorem key_fc {G : List (Nat × Array Value)} (hm : ShaIn G) {gf : FuncId} {caps : List AV} {L : List Tx16} (hseq : SeqC Tryd.prog G gf caps encT L) (hbel : ∀ u, AV.belL u caps) (hren : ∀ π, AV.renL π caps = caps) (hL : L.length ≤ 10) :
    FC Tryd.prog G 43 [.fn (.func gf) [] caps] [] (sA (tag 4 (vals L))) [] := by
  have htag := tag_fc hm 4 (vals L) (vals_in L hL)
  refine FC.of_wpm [2] Tryd.func43 rfl rfl rfl rfl ⟨⟨trivial, hbel _⟩, trivial⟩ trivial (by exact Nat.le_of_ble_eq_true rfl) ?_
  intro A hG hnA hAB
  unfold start
  refine WPM.seq ?_
  refine WP.rg hG ?_
  refine Ch.asg rfl rfl ?_
  refine Ch.nil ?_
  refine WPM.seq ?_
  refine WP.rg hG ?_
  refine Ch.al gdN (by exact trivial) (OpS.alloc 0 rfl rfl rfl) (by first | exact trivial | exact ⟨rfl, trivial⟩) (by first | exact trivial | exact ⟨rfl, trivial⟩ | exact ⟨rfl, rfl, trivial⟩) rfl ?_
  refine Ch.nil ?_
  refine WPM.seqS ?_
  refine WP.rg hG ?_
  refine Ch.mv rfl rfl ?_
  refine Ch.nil ?_
  refine WPS.range hG ([(3, .ptr 0 0), (5, .fn (.func gf) [] caps)]) (fun pre => [(0, .cells 22 [.sl (some 1) (vals pre).length ((vals pre).map sA)]), (1, .tip 9 1 (vals pre).length)]) (2) ((SEnt.nilCell (id := 0) (off := 0) 1 9 1 rfl rfl rfl rfl).trans (Ent.of [] ?_ ?_ ?_ ?_).se) rfl (hseq) (by decide) (by decide) (by rfl) (by rfl) (by rfl) ?_ ?_
  · exact (fun i hi => by rw [hnA] at hi; simp only [List.length_cons, List.length_nil] at hi ⊢; first | exact absurd hi (Nat.not_lt_zero _) | (revert i; decide))
  · (repeat (first | exact trivial | (refine And.intro ⟨(by first | trivial | (simp; first | done | fail) | exact ⟨trivial, hbel _⟩), _, rfl, (by first | exact .rfl _ | exact .nil | exact .of_eq (by simp [hren]; first | done | fail) | exact AV.wk.sh (by simp [hren]; first | done | fail) | exact .untip _ _ _)⟩ ?_)))
  · (repeat (first | exact trivial | (refine And.intro ⟨rfl, (by first | trivial | (simp; first | done | fail) | exact ⟨trivial, hbel _⟩), (by first | rfl | (simp [hren]; first | done | fail))⟩ ?_)))
  · simp [rn]
  · intro A' pre x hG' hnA' hlen
    have hG := hG'
    have hnA := hnA'.trans hnA
    have hl := vals_length pre
    refine Ch.pu gdN (by exact ⟨rfl, trivial⟩) (OpS.loadP rfl rfl rfl) ⟨rfl, trivial⟩ rfl ?_
    refine Ch.mv rfl rfl ?_
    refine Ch.pup gdN (by repeat (first | exact EvP.nil | (apply EvP.cons; exact rfl))) (OpS.slice1 (ys := ([x.1] : List Txw).map sA) rfl rfl rfl rfl rfl rfl (by rfl) rfl (by rfl)) rfl ?_
    refine Ch.al gdN (by exact ⟨rfl, rfl, trivial⟩) (OpS.append (sz := 1) (bb := 16) 2 rfl rfl rfl rfl rfl (by decide) (SrcA.sl rfl (by simp)) (by first | (simp; done) | (simp; assumption)) (by simp) (by unfold maxLen; omega) rfl (by omega)) (by first | exact trivial | exact ⟨rfl, trivial⟩) (by first | exact trivial | exact ⟨rfl, trivial⟩ | exact ⟨rfl, rfl, trivial⟩) rfl ?_
    refine Ch.wr gdN (by exact ⟨rfl, rfl, trivial⟩) (OpS.storeP (cs := [.sl (some 1) (vals pre).length ((vals pre).map sA)]) rfl rfl rfl (by simp)) (by first | exact trivial | exact ⟨rfl, trivial⟩) (by first | exact trivial | exact ⟨rfl, trivial⟩ | exact ⟨rfl, rfl, trivial⟩) ?_
    refine Ch.nil ?_
    refine (Ent.of [0, 2] ?_ ?_ ?_ ?_).se
    · exact (fun i hi => by rw [hnA] at hi; simp only [List.length_cons, List.length_nil] at hi ⊢; first | exact absurd hi (Nat.not_lt_zero _) | (revert i; decide))
    · (repeat (first | exact trivial | (refine And.intro ⟨(by first | trivial | (simp; first | done | fail) | exact ⟨trivial, hbel _⟩), _, rfl, (by first | exact .rfl _ | exact .nil | exact .of_eq (by simp [vals_append, vals_one, hren]; first | done | fail) | exact AV.wk.sh (by simp [vals_append, vals_one, hren]; first | done | fail) | exact .untip _ _ _)⟩ ?_)))
    · (repeat (first | exact trivial | (refine And.intro ⟨rfl, (by first | trivial | (simp; first | done | fail) | exact ⟨trivial, hbel _⟩), (by first | rfl | (simp [vals_append, vals_one, hren]; first | done | fail))⟩ ?_)))
    · simp [rn]
  · intro A' hG' hnA'
    have hG := hG'
    have hnA := hnA'.trans hnA
    refine Ch.pu gdN (by exact ⟨rfl, trivial⟩) (OpS.loadP rfl rfl rfl) ⟨rfl, trivial⟩ rfl ?_
    refine Ch.callP (htag) gdN (by repeat (first | exact EvL.nil | (apply EvL.cons; exact rfl))) (by exact (And.intro (by first | exact .rfl _ | exact .untip _ _ _ | exact .nil | exact .func _ | exact AV.wk.sh (renL_s _ _) | exact AV.wk.sh (by simp; first | done | fail)) (And.intro (by first | exact .rfl _ | exact .untip _ _ _ | exact .nil | exact .func _ | exact AV.wk.sh (renL_s _ _) | exact AV.wk.sh (by simp; first | done | fail)) trivial))) (by rfl) rfl ?_
    refine Ch.asg rfl rfl ?_
    refine Ch.nil ?_
    exact Ret.one rfl (by first | exact .rfl _ | exact .nil | exact .of_eq (by simp; first | done | fail) | exact AV.wk.sh (by simp; first | done | fail) | exact .untip _ _ _) (by first | trivial | simp [AV.bel]) hnA
abbrev alwA (n : Int) : AV := .fn (.func 73) [] [.sptr [.v (.int .i64 n)]]
abbrev secA (s : Txw) (leaf : Int) : AV := .fn (.func 70) [] [.sptr [sA s], .sptr [.v (.int .i64 leaf)]]
abbrev showA (s : Txw) : AV := .fn (.func 65) [] [.sptr [sA s]]
abbrev digA (f : FuncId) (d : List Nat) : AV := .fn (.func f) [] [.sptr [.sl none d.length (d.map nA)]]
def tx16 (f : Nat → Txw) (h : ∀ c, (f c).length ≤ 16) (c : Nat) : Tx16 := ⟨f c, h c⟩
theorem vals_range (f : Nat → Txw) (h : ∀ c, (f c).length ≤ 16) (n : Nat) : vals ((List.range n).map (tx16 f h)) = endsL f n := by
  unfold vals endsL
  rw [List.map_map]
  rfl
theorem renL_dig (π : Nat → Nat) (d : List Nat) : AV.renL π [.sptr [.sl none d.length (d.map nA)]] = [.sptr [.sl none d.length (d.map nA)]] := by simp
theorem ren_dig (π : Nat → Nat) (f : FuncId) (d : List Nat) : AV.ren π (digA f d) = digA f d := by simp
theorem bel_dig (u : Nat → Bool) (f : FuncId) (d : List Nat) : (digA f d).bel u := ⟨trivial, ⟨⟨by simp, belL_n _ _⟩, trivial⟩, trivial⟩
theorem i64_nat {n : Nat} (h : n < 16) : -9223372036854775808 ≤ (n : Int) ∧ (n : Int) ≤ 9223372036854775807 := by omega
section
variable {G : List (Nat × Array Value)}
theorem pub_seq (hm : ShaIn G) (s : Txw) (leaf : Int) (hv : s.length ≤ 140737488355264) : SeqC Tryd.prog G 68 [.sptr [alwA 0], .sptr [alwA 15], .sptr [secA s leaf]] encT ((List.range 10).map (tx16 (pubF s leaf) fun c => by rw [pubF_length]; exact Nat.le_refl _)) :=
  walks_seq hm (fr := fun _ => 0) (to := fun _ => 15) (fst := fun c => secretT s leaf c) (fun c _ => alwaysC_fc c 0) (fun c _ => alwaysC_fc c 15) (fun c _ => secretC_fc hm c leaf s hv) (fun _ => by decide) (fun _ => by decide) (fun c => by rw [secretT_length]; decide) (fun c _ => rfl) rfl rfl rfl
theorem from_seq (hm : ShaIn G) (s msg : Txw) (hs : s.length = 160) : SeqC Tryd.prog G 68 [.sptr [digA 66 (digitsT msg)], .sptr [alwA 15], .sptr [showA s]] encT ((List.range 10).map fun c => if h : (fromF s (digitsT msg) c).length ≤ 16 then ⟨fromF s (digitsT msg) c, h⟩ else ⟨[], Nat.zero_le _⟩) :=
  walks_seq hm (fr := fun c => (nget (digitsT msg) c : Nat)) (to := fun _ => 15) (fst := fun c => (s.drop (16 * c)).take 16) (fun c hc => fromD_fc c (digitsT msg) (by rw [digitsT_length]; exact hc)) (fun c _ => alwaysC_fc c 15) (fun c hc => fromC_fc c s hc hs) (fun c => i64_nat (el_lt msg c)) (fun _ => by decide)
    (fun c => by rw [List.length_take, List.length_drop]; omega) (fun c hc => by rw [dif_pos (by rw [fromF_length s _ c hs hc]; exact Nat.le_refl _)]; rfl) (renL_dig _ _) rfl rfl
theorem vals_from (s msg : Txw) (hs : s.length = 160) : vals ((List.range 10).map fun c => if h : (fromF s (digitsT msg) c).length ≤ 16 then (⟨fromF s (digitsT msg) c, h⟩ : Tx16) else ⟨[], Nat.zero_le _⟩) = endsL (fromF s (digitsT msg)) 10 := by
  unfold vals endsL
  rw [List.map_map]
  refine List.map_congr_left fun c hc => ?_
  show (if h : _ then (⟨_, h⟩ : Tx16) else ⟨[], Nat.zero_le _⟩).1 = _
  rw [dif_pos (by rw [fromF_length s _ c hs (by simpa using hc)]; exact Nat.le_refl _)]
theorem pub_fc (hm : ShaIn G) (s : Txw) (leaf : Int) (hv : s.length ≤ 140737488355264) : FC Tryd.prog G 20 [sA s, .v (.int .i64 leaf)] [] (sA (pubT s leaf)) [] := by
  have hwk := walks_fc (G := G) (alwA 0) (alwA 15) (secA s leaf) rfl rfl rfl ⟨trivial, ⟨trivial, trivial⟩, trivial⟩ ⟨trivial, ⟨trivial, trivial⟩, trivial⟩ ⟨trivial, ⟨trivial, trivial⟩, ⟨trivial, trivial⟩, trivial⟩ rfl rfl rfl
  have hkey := key_fc hm (pub_seq hm s leaf hv) (fun u => ⟨⟨⟨trivial, ⟨trivial, trivial⟩, trivial⟩, trivial⟩, ⟨⟨trivial, ⟨trivial, trivial⟩, trivial⟩, trivial⟩, ⟨⟨trivial, ⟨trivial, trivial⟩, ⟨trivial, trivial⟩, trivial⟩, trivial⟩, trivial⟩) (fun π => rfl) (by simp)
  rw [vals_range] at hkey
  refine FC.of_wp [4] Tryd.func20 rfl rfl rfl rfl (by first | trivial | (simp; first | done | fail) | exact ⟨trivial, hbel _⟩) (by first | trivial | (simp; first | done | fail) | exact ⟨trivial, hbel _⟩) (by exact Nat.le_of_ble_eq_true rfl) ?_
  intro A hG hnA hAB
  unfold start
  refine WP.rs hG ?_
  refine Ch.asg rfl rfl ?_
  refine Ch.nil ?_
  refine WP.rs hG ?_
  refine Ch.mv rfl rfl ?_
  refine Ch.mv rfl rfl ?_
  refine Ch.callP (secrets_fc s leaf) gdN (by repeat (first | exact EvL.nil | (apply EvL.cons; exact rfl))) (by exact (And.intro (by first | exact .rfl _ | exact .untip _ _ _ | exact .nil | exact .func _ | exact AV.wk.sh (renL_s _ _) | exact AV.wk.sh (by simp; first | done | fail)) (And.intro (by first | exact .rfl _ | exact .untip _ _ _ | exact .nil | exact .func _ | exact AV.wk.sh (renL_s _ _) | exact AV.wk.sh (by simp; first | done | fail)) trivial))) (by rfl) rfl ?_
  refine Ch.callP (always_fc 0) gdN (by repeat (first | exact EvL.nil | (apply EvL.cons; exact rfl))) (by exact (And.intro (by first | exact .rfl _ | exact .untip _ _ _ | exact .nil | exact .func _ | exact AV.wk.sh (renL_s _ _) | exact AV.wk.sh (by simp; first | done | fail)) trivial)) (by rfl) rfl ?_
  refine Ch.callP (always_fc 15) gdN (by repeat (first | exact EvL.nil | (apply EvL.cons; exact rfl))) (by exact (And.intro (by first | exact .rfl _ | exact .untip _ _ _ | exact .nil | exact .func _ | exact AV.wk.sh (renL_s _ _) | exact AV.wk.sh (by simp; first | done | fail)) trivial)) (by rfl) rfl ?_
  refine Ch.callP (hwk) gdN (by repeat (first | exact EvL.nil | (apply EvL.cons; exact rfl))) (by exact (And.intro (by first | exact .rfl _ | exact .untip _ _ _ | exact .nil | exact .func _ | exact AV.wk.sh (renL_s _ _) | exact AV.wk.sh (by simp; first | done | fail)) (And.intro (by first | exact .rfl _ | exact .untip _ _ _ | exact .nil | exact .func _ | exact AV.wk.sh (renL_s _ _) | exact AV.wk.sh (by simp; first | done | fail)) (And.intro (by first | exact .rfl _ | exact .untip _ _ _ | exact .nil | exact .func _ | exact AV.wk.sh (renL_s _ _) | exact AV.wk.sh (by simp; first | done | fail)) trivial)))) (by rfl) rfl ?_
  refine Ch.callP (hkey) gdN (by repeat (first | exact EvL.nil | (apply EvL.cons; exact rfl))) (by exact (And.intro (by first | exact .rfl _ | exact .untip _ _ _ | exact .nil | exact .func _ | exact AV.wk.sh (renL_s _ _) | exact AV.wk.sh (by simp; first | done | fail)) trivial)) (by rfl) rfl ?_
  refine Ch.asg rfl rfl ?_
  refine Ch.nil ?_
  refine WP.ret (Ret.one rfl (by first | exact .rfl _ | exact .nil | exact .of_eq (by simp; first | done | fail) | exact AV.wk.sh (by simp; first | done | fail) | exact .untip _ _ _) (by first | trivial | simp [AV.bel]) hnA)
theorem from_fc (hm : ShaIn G) (s msg : Txw) (hl : s.length ≤ 9223372036854775807) (hv : msg.length ≤ 140737488355264) : FC Tryd.prog G 42 [sA s, sA msg] [] (sA (fromT s msg)) [] := by
  have hdg := digits_fc (G := G) hm msg hv
  refine FC.of_wp [4] Tryd.func42 rfl rfl rfl rfl (by first | trivial | (simp; first | done | fail) | exact ⟨trivial, hbel _⟩) (by first | trivial | (simp; first | done | fail) | exact ⟨trivial, hbel _⟩) (by exact Nat.le_of_ble_eq_true rfl) ?_
  intro A hG hnA hAB
  unfold start
  refine WP.rs hG ?_
  refine Ch.pu gdN (by exact ⟨rfl, trivial⟩) (OpS.boxS) trivial rfl ?_
  refine Ch.asg rfl rfl ?_
  refine Ch.nil ?_
  refine WP.seq ?_
  refine WP.rs hG ?_
  refine Ch.pu gdN (by exact ⟨rfl, trivial⟩) (OpS.loadS rfl rfl) trivial rfl ?_
  refine Ch.pu gdN (by exact ⟨rfl, trivial⟩) (OpS.lenS rfl) trivial rfl ?_
  refine Ch.pu gdN (by exact ⟨rfl, rfl, trivial⟩) (OpS.int rfl (by first | exact wr64 (by omega) | exact rfl)) trivial rfl ?_
  refine Ch.nil ?_
  refine WP.cond rfl ?_ ?_
  · intro ht
    have h160 : s.length ≠ 160 := by
      intro e
      rw [e] at ht
      exact absurd ht (by decide)
    refine WP.rs hG ?_
    refine Ch.asg rfl rfl ?_
    refine Ch.nil ?_
    exact WP.ret (Ret.one rfl (.of_eq (by rw [show fromT s msg = [] from if_neg h160]; rfl)) trivial hnA)
  · intro ht
    have hs160 : s.length = 160 := by
      simp at ht
      omega
    have hwk := walks_fc (G := G) (digA 66 (digitsT msg)) (alwA 15) (showA s) (ren_dig _ _ _) rfl rfl (bel_dig _ _ _) ⟨trivial, ⟨trivial, trivial⟩, trivial⟩ ⟨trivial, ⟨trivial, trivial⟩, trivial⟩ rfl rfl rfl
    have hkey := key_fc hm (from_seq hm s msg hs160) (fun u => ⟨⟨bel_dig _ _ _, trivial⟩, ⟨⟨trivial, ⟨trivial, trivial⟩, trivial⟩, trivial⟩, ⟨⟨trivial, ⟨trivial, trivial⟩, trivial⟩, trivial⟩, trivial⟩) (fun π => by simp) (by simp)
    rw [vals_from s msg hs160] at hkey
    have hft : fromT s msg = tag 4 (endsL (fromF s (digitsT msg)) 10) := if_pos hs160
    refine WP.skip ?_
    refine WP.rs hG ?_
    refine Ch.mv rfl rfl ?_
    refine Ch.callS (hdg) gdN (by repeat (first | exact EvL.nil | (apply EvL.cons; exact rfl))) (by exact (And.intro (by first | exact .rfl _ | exact .untip _ _ _ | exact .nil | exact .func _ | exact AV.wk.sh (renL_s _ _) | exact AV.wk.sh (by simp; first | done | fail)) trivial)) (by first | rfl | simp) rfl ?_
    refine Ch.al gdN (by exact trivial) (OpS.alloc 0 rfl rfl rfl) (by first | exact trivial | exact ⟨rfl, trivial⟩) (by first | exact trivial | exact ⟨rfl, trivial⟩ | exact ⟨rfl, rfl, trivial⟩) rfl ?_
    refine Ch.wr gdN (by exact ⟨rfl, rfl, trivial⟩) (OpS.storeP (cs := [.v (.slice none 0 0)]) rfl rfl rfl (by simp)) (by first | exact trivial | exact ⟨rfl, trivial⟩) (by first | exact trivial | exact ⟨rfl, trivial⟩ | exact ⟨rfl, rfl, trivial⟩) ?_
    refine Ch.nil ?_
    refine WP.from (SEnt.frz (t := 5) (id := 0) rfl rfl) ?_
    refine WP.rs hG ?_
    refine Ch.mf gdN (by repeat (first | exact EvL.nil | (apply EvL.cons; exact rfl))) rfl ?_
    refine Ch.asg rfl rfl ?_
    refine Ch.nil ?_
    refine WP.rs hG ?_
    refine Ch.mv rfl rfl ?_
    refine Ch.mf gdN (by repeat (first | exact EvL.nil | (apply EvL.cons; exact rfl))) rfl ?_
    refine Ch.callP (always_fc 15) gdN (by repeat (first | exact EvL.nil | (apply EvL.cons; exact rfl))) (by exact (And.intro (by first | exact .rfl _ | exact .untip _ _ _ | exact .nil | exact .func _ | exact AV.wk.sh (renL_s _ _) | exact AV.wk.sh (by simp; first | done | fail)) trivial)) (by rfl) rfl ?_
    refine Ch.callP (hwk) gdN (EvL.cons rfl (EvL.cons rfl (EvL.cons rfl EvL.nil))) (⟨.rfl _, .of_eq (ren_dig _ _ _).symm, .rfl _, trivial⟩) (by rfl) rfl ?_
    refine Ch.callP (hkey) gdN (by repeat (first | exact EvL.nil | (apply EvL.cons; exact rfl))) (by exact (And.intro (by first | exact .rfl _ | exact .untip _ _ _ | exact .nil | exact .func _ | exact AV.wk.sh (renL_s _ _) | exact AV.wk.sh (by simp; first | done | fail)) trivial)) (by rfl) rfl ?_
    refine Ch.asg rfl rfl ?_
    refine Ch.nil ?_
    exact WP.ret (Ret.one rfl (by rw [hft]; exact .rfl _) trivial hnA)
end
end Go.Proofs.YtcojfnjpcpochaaDoor.E
end
section
namespace Go.Proofs.YtcojfnjpcpochaaDoor.E
open Go Go.RowKit Go.Proofs.YtcojfnjpcpochaaDoor.V
attribute [local go_sem] B_size B_append B_extract mk_B B_toList take_drop_len List.length_drop List.length_take sgn32 sgn64 add32 sub32 mul32 add64 sub64 mul64 mul64_8 and32 or32 xor32 and64 or64 xor64 shl32_run shr32_run shl64_run shr64_run not32 not32' xor32_all w_u32_u8 w_u64_u8 w_i64_u8 w_u8_u32 w_u8_u64 w_u32_u64 w_u64_u32 w_u8_u8 w_u32_u32 w_u64_u64
attribute [local go_sem ↓] run_index_B' add32 sub32 mul32 add64 sub64 mul64 mul64_8 and32 or32 xor32 and64 or64 xor64 shl32_run shr32_run shl64_run shr64_run not32 not32' xor32_all w_u32_u8 w_u64_u8 w_i64_u8 w_u8_u32 w_u8_u64 w_u32_u64 w_u64_u32 w_u8_u8 w_u32_u32 w_u64_u64 w_u64_nat w_u32_nat w_u8_nat
set_option maxRecDepth 4000
section
variable {F : Fence} {n : Nat} {P : Program} {ops : Array Oper} {Q : Exit → Act → World → Prop} {a : Act} {W : World} {dst : Option Tmp} {ty : TypeId} {pos : String} {aft : Array Edge} {gd : Option (Nat × Bool)}
theorem wpIn_mv (hF : Wide F) {x : Operand} {K : Act → World → Prop} (h : K (a.put dst (a.eval x)) W) : Oper.wpIn F n P ⟨dst, .move x, ty, pos, aft, gd⟩ a W K Q := by
  refine ⟨fun f _ => hF.fn f, ?_⟩
  rw [Oper.semAt_eq _ _ _ (fun c h => by cases h)]
  exact h
theorem wpIn_as (hF : Wide F) {x : Operand} {K : Act → World → Prop} (h : K (a.put dst (a.eval x)) W) : Oper.wpIn F n P ⟨dst, .assign x, ty, pos, aft, gd⟩ a W K Q := by
  refine ⟨fun f _ => hF.fn f, ?_⟩
  rw [Oper.semAt_eq _ _ _ (fun c h => by cases h)]
  exact h
theorem wpIn_al (hF : Wide F) {T : TypeId} {inf : TypeInfo} {z : Value} (hi : P.info? T = some inf) (hz : inf.zero = some z) {K : Act → World → Prop} (h : K (a.put dst (.pointer (some ⟨W.heap.size, 0, none⟩))) (W.alloc (.cells z.cells T))) :
    Oper.wpIn F n P ⟨dst, .alloc T, ty, pos, aft, gd⟩ a W K Q := by
  refine ⟨fun f _ => hF.fn f, ?_⟩
  rw [Oper.semAt_eq _ _ _ (fun c h => by cases h)]
  have hrun : (execOp a.eval ⟨dst, .alloc T, ty, pos, aft, gd⟩).run P W = .ok (.value (.pointer (some ⟨W.heap.size, 0, none⟩))) (W.alloc (.cells z.cells T)) := by
    refine runv (s := Instr.alloc T true (.tuple #[])) ?_
    simp [Instr.alloc, newVar, newRow, zeroValue, typeInfo, hi, hz, Sem.run_bind, Sem.run_pure, Result.andThen_ok]
  rw [hrun]
  exact h
theorem wpIn_cl (hF : Wide F) {f : FuncId} {fn : Func} {c : Code} (hf : P.funcs[f]? = some fn) (hname : (fn.name == "runtime.NumGoroutine") = false) (hb : fn.body = some c) {xs : Array Operand} {ats : Array TypeId} {vs : Array Value} (hv : xs.map a.eval = vs)
    {R : Ending → World → Prop} (hc : Calls P f vs W R) {K : Act → World → Prop} (hK : ∀ e W', R e W' → ∃ v, e = .returned v ∧ K (a.put dst v) W') : Oper.wpIn F n P ⟨dst, .call ⟨.value (.func f), xs, ats⟩, ty, pos, aft, gd⟩ a W K Q := by
  refine ⟨fun f _ => hF.fn f, ?_⟩
  rw [Oper.semAt_eq _ _ _ (fun c h => by cases h)]
  have hrun : (execOp a.eval ⟨dst, .call ⟨.value (.func f), xs, ats⟩, ty, pos, aft, gd⟩).run P W = .ok (.enter f vs) W := by
    have := run_enter hf hname hb vs W
    show (do let d ← Deferred.ofValue (.func (.func f) #[] #[]) (xs.map a.eval); invoke d.target d.args : Sem Next).run P W = _
    rw [hv]
    show (callFunc f (#[] ++ vs ++ #[])).run P W = _
    simpa using this
  rw [hrun]
  refine ⟨fun h => (by rw [hF.depth] at h; cases h), (hF.calls hc).mono ?_⟩
  rintro e W' he
  obtain ⟨v, rfl, h⟩ := hK e W' he
  exact h
theorem wpIn_lv (lp : Nat) {p v ia : Nat} {y : Value} (hp : p < a.tmps.size) {K : Act → World → Prop} (hK : K { tmps := (a.tmps.setIfInBounds p y).setIfInBounds v y, defers := [] } W) :
    (Code.region ia #[⟨some v, .assign (.tmp p), ty, pos, aft, none⟩] false).wpIn (Fence.wide.inRound lp) n P (Exit.then K Q) { tmps := (#[p].zip #[y]).foldl (fun t (q, v) => t.setIfInBounds q v) a.tmps, defers := [] } W := by
  refine wpIn_region_lit (l := [_]) (wpListIn_one rfl (wpIn_as (Wide.rd lp) ?_))
  have h1 : (({ tmps := (#[p].zip #[y]).foldl (fun t (q, v) => t.setIfInBounds q v) a.tmps, defers := [] } : Act).eval (.tmp p)) = y := by simp [Act.eval, Array.getD_eq_getD_getElem?, hp]
  rw [h1]
  have h2 : Act.put { tmps := (#[p].zip #[y]).foldl (fun t (q, v) => t.setIfInBounds q v) a.tmps, defers := [] } (some v) y = { tmps := (a.tmps.setIfInBounds p y).setIfInBounds v y, defers := [] } := by simp [Act.put]
  rw [h2]
  exact hK
end
theorem WPM.from {P : Program} {A : Amb} {rs : List Tmp} {res : AV} {H' : List (Option AO)} {c : Code} {σ σ' : AS} (h : SEnt A σ σ') (k : WPM P A rs res H' c σ') : WPM P A rs res H' c σ :=
  ⟨fun ρ a w hs => by obtain ⟨ρ', hs'⟩ := h ρ a w hs; exact k.run ρ' a w hs'⟩

theorem joinL_flat (f : Nat → Txw) : ∀ n, joinL f n = (endsL f n).flatten
  | 0 => rfl
  | n + 1 => by rw [joinL, joinL_flat f n, endsL_succ, List.flatten_append]; simp
theorem flat_len : ∀ l : List Tx16, (vals l).flatten.length ≤ 16 * l.length
  | [] => Nat.le_refl _
  | x :: l => by
    have h1 := flat_len l
    have h2 := x.2
    show (x.1 ++ (vals l).flatten).length ≤ _
    rw [List.length_append, List.length_cons]
    omega
theorem own_cells {w : World} {base : Nat} {v : Value} {l : List UInt8} (h : obytes w base v l) {k : Nat} (hk : v.ownBlock = some k) : ∃ o : Obj, w.heap[k]? = some o ∧ o.isCells = true := by
  rcases h.2 with ⟨rfl, -⟩ | ⟨g, cap, cur, rfl, -, hg, -⟩
  · cases hk
  · cases hk
    exact ⟨_, hg, rfl⟩
theorem bld_rest {w w' : World} {base b : Nat} {v : Value} {l : List UInt8} (h : Bld w base b v l) {row : Option Nat} (hg : w.grownBy w' row) (hr : ∀ r, row = some r → ∃ o : Obj, w.heap[r]? = some o ∧ o.isCells = false) : Bld w' base b v l := by
  have key : ∀ (k : Nat) (o : Obj), w.heap[k]? = some o → o.isCells = true → w'.heap[k]? = w.heap[k]? := fun k o ho hc => grownBy_keeps_cells hg hr ho hc
  have hb : w'.heap[b]? = w.heap[b]? := by rcases h.at_ with h | h <;> exact key b _ h rfl
  refine ⟨by rw [hb]; exact h.at_, ?_, h.ne⟩
  have hf : Fr row.toList w w' := Fr.of_grown hg
  refine h.own.kept hf fun k hk hkr => ?_
  obtain ⟨c, hc⟩ := own_cells h.own hk
  cases row with
  | none => simp at hkr
  | some r =>
    simp only [Option.toList_some, List.mem_singleton] at hkr
    subst hkr
    obtain ⟨o, ho, hno⟩ := hr k rfl
    rw [hc.1] at ho
    cases ho
    rw [hc.2] at hno
    cases hno
attribute [local irreducible] sum tag input laidN wstep walkT secretT digitsT
theorem bld_info : ∃ inf : TypeInfo, Tryd.prog.info? 77 = some inf ∧ inf.zero = some (.agg #[.pointer none, .slice none 0 0]) := ⟨_, rfl, rfl⟩
theorem sign_seq {G : List (Nat × Array Value)} (hm : ShaIn G) (s : Txw) (leaf : Int) (msg : Txw) (hv : s.length ≤ 140737488355264) : SeqC Tryd.prog G 68 [.sptr [alwA 0], .sptr [digA 49 (digitsT msg)], .sptr [secA s leaf]] encT ((List.range 10).map (tx16 (signF s leaf (digitsT msg)) fun c => by rw [signF_length]; exact Nat.le_refl _)) :=
  walks_seq hm (fr := fun _ => 0) (to := fun c => (nget (digitsT msg) c : Nat)) (fst := fun c => secretT s leaf c) (fun c _ => alwaysC_fc c 0) (fun c hc => signC_fc c (digitsT msg) (by rw [digitsT_length]; exact hc)) (fun c _ => secretC_fc hm c leaf s hv) (fun _ => by decide) (fun c => i64_nat (el_lt msg c))
    (fun c => by rw [secretT_length]; decide) (fun c _ => rfl) rfl (renL_dig _ _) rfl
set_option maxHeartbeats 1000000 in
theorem sign_fc {G : List (Nat × Array Value)} (hm : ShaIn G) (s : Txw) (leaf : Int) (msg : Txw) (hv : s.length ≤ 140737488355264) (hv2 : msg.length ≤ 140737488355264) :
    FC Tryd.prog G 24 [sA s, .v (.int .i64 leaf), sA msg] [] (sA (signT s leaf msg)) [] := by
  have hdg := digits_fc (G := G) hm msg hv2
  have hseq := sign_seq hm s leaf msg hv
  have hwk := walks_fc (G := G) (alwA 0) (digA 49 (digitsT msg)) (secA s leaf) rfl (ren_dig _ _ _) rfl ⟨trivial, ⟨trivial, trivial⟩, trivial⟩ (bel_dig _ _ _) ⟨trivial, ⟨trivial, trivial⟩, ⟨trivial, trivial⟩, trivial⟩ rfl rfl rfl
  obtain ⟨d, hd⟩ : ∃ d, d = digitsT msg := ⟨_, rfl⟩
  obtain ⟨L, hL⟩ : ∃ L : List Tx16, L = (List.range 10).map (tx16 (signF s leaf (digitsT msg)) fun c => by rw [signF_length]; exact Nat.le_refl _) := ⟨_, rfl⟩
  have hLl : L.length = 10 := by rw [hL]; simp
  have hres : (vals L).flatten = signT s leaf msg := by rw [hL, vals_range, ← joinL_flat]; rfl
  have hne : (vals L).flatten ≠ [] := by rw [hres]; exact fun e => by have := signT_length s leaf msg; rw [e] at this; simp at this
  rw [← hL] at hseq
  rw [← hd] at hdg hseq hwk
  clear hL
  refine FC.of_wpm [6] Tryd.func24 rfl rfl rfl rfl ⟨trivial, trivial, trivial, trivial⟩ trivial (by exact Nat.le_of_ble_eq_true rfl) ?_
  intro A hG hnA hAB
  unfold start
  refine WPM.seq ?_
  refine WP.rg hG ?_
  refine Ch.asg rfl rfl ?_
  refine Ch.nil ?_
  refine WPM.seq ?_
  refine WP.rg hG ?_
  refine Ch.mv rfl rfl ?_
  refine Ch.callS (hdg) gdN (by repeat (first | exact EvL.nil | (apply EvL.cons; exact rfl))) (by exact (And.intro (by first | exact .rfl _ | exact .untip _ _ _ | exact .nil | exact .func _ | exact AV.wk.sh (renL_s _ _) | exact AV.wk.sh (by simp; first | done | fail)) trivial)) (by first | rfl | simp) rfl ?_
  refine Ch.al gdN (by exact trivial) (OpS.alloc 0 rfl rfl rfl) (by first | exact trivial | exact ⟨rfl, trivial⟩) (by first | exact trivial | exact ⟨rfl, trivial⟩ | exact ⟨rfl, rfl, trivial⟩) rfl ?_
  refine Ch.wr gdN (by exact ⟨rfl, rfl, trivial⟩) (OpS.storeP (cs := [.v (.slice none 0 0)]) rfl rfl rfl (by simp)) (by first | exact trivial | exact ⟨rfl, trivial⟩) (by first | exact trivial | exact ⟨rfl, trivial⟩ | exact ⟨rfl, rfl, trivial⟩) ?_
  refine Ch.nil ?_
  refine WPM.from ((SEnt.frz (t := 7) (id := 0) rfl rfl).trans (Ent.of (l := [(0, sA s), (1, .v (.int .i64 leaf)), (7, .sptr [.sl none d.length (d.map nA)])]) (lo := []) (m := 1) [] ?_ ?_ ?_ ?_).se) ?_
  · exact (fun i hi => by rw [hnA] at hi; simp only [List.length_cons, List.length_nil] at hi ⊢; first | exact absurd hi (Nat.not_lt_zero _) | (revert i; decide))
  · (repeat (first | exact trivial | (refine And.intro ⟨(by first | trivial | (simp; first | done | fail) | exact ⟨trivial, hbel _⟩), _, rfl, (by first | exact .rfl _ | exact .nil | exact .of_eq (by simp; first | done | fail) | exact AV.wk.sh (by simp; first | done | fail) | exact .untip _ _ _)⟩ ?_)))
  · (repeat (first | exact trivial | (refine And.intro ⟨rfl, (by first | trivial | (simp; first | done | fail) | exact ⟨trivial, hbel _⟩), (by first | rfl | (simp; first | done | fail))⟩ ?_)))
  · simp [rn]
  constructor
  intro ρ a w hs
  have hno : ∀ i ob, lh [] i = some ob → False := fun i ob h => by cases h
  obtain ⟨inf, hi1, hi2⟩ := bld_info
  refine (wpIn_wide (n := 4)).1 (wpIn_seq (wpIn_region_lit (l := [_]) (wpListIn_one rfl (wpIn_al Wide.w hi1 hi2 ?_))))
  obtain ⟨w1, hw1⟩ : ∃ w1, w1 = w.alloc (.cells (Value.agg #[.pointer none, .slice none 0 0]).cells 77) := ⟨_, rfl⟩
  obtain ⟨N, hN⟩ : ∃ N, N = Nh A (lh []) ρ w := ⟨_, rfl⟩
  have hz1 : w1.heap.size = w.heap.size + 1 := by rw [hw1]; simp
  have ho1 : ∀ k, k < w.heap.size → w1.heap[k]? = w.heap[k]? := fun k hk => by rw [hw1]; exact Below.heap_alloc w _ k hk
  have hNlt : ∀ b o, N b o → b < w.heap.size := fun b o hn => by rw [hN] at hn; exact hn.1
  have htw : ∀ x ∈ G, ∃ T, w.heap[x.1]? = some (.cells x.2 T (0, 0)) := fun x hx => (hs.mem.now.tabs x (by show x ∈ A.G; rw [hG]; exact hx)).1
  have htlt : ∀ x ∈ G, x.1 < w.heap.size := fun x hx => by obtain ⟨T, hT⟩ := htw x hx; exact (Array.getElem?_eq_some_iff.1 hT).1
  have hSt : Stand G (Ns N w1) w1 := ⟨fun b o hn => by have := hNlt b o hn.1; omega, fun x hx => by rw [ho1 _ (htlt x hx)]; exact htw x hx⟩
  obtain ⟨S, hS⟩ : ∃ S : List (Nat × AV), S = [(0, sA s), (1, .v (.int .i64 leaf)), (7, .sptr [.sl none d.length (d.map nA)])] := ⟨_, rfl⟩
  rw [← hw1]
  show Code.wpIn Fence.wide 4 _ (Code.seq _ _) _ (a.put (some 8) (.pointer (some ⟨w.heap.size, 0, none⟩))) w1
  have hI1 : It G N w1 (fun _ => True) 22 S (a.put (some 8) (.pointer (some ⟨w.heap.size, 0, none⟩))) w1 := by
    refine ⟨?_, by simp [Act.put, hs.nt], (put_defers _ _ _).trans hs.defers, trivial, ⟨fun _ _ _ => rfl, fun _ _ => rfl⟩⟩
    have hsl : Sl (Ns N w1) w1 S a := fun t v ht => by
      obtain ⟨x, hx, hvx⟩ := hs.slots t v (by rw [← hS]; exact ht)
      refine ⟨x, hx, VRel.noE (ρ := ρ) (VRel.ns (hvx.mono (fun b o hb => by rw [hN]; exact hb) (Env.le_refl _) (fun b o hb => World.cell?_of_block (w := w) (ho1 b hb.1)))) ?_⟩
      subst hS
      have hm' := ls_some ht
      simp only [List.mem_cons, Prod.mk.injEq, List.not_mem_nil, or_false] at hm'
      rcases hm' with ⟨rfl, rfl⟩ | ⟨rfl, rfl⟩ | ⟨rfl, rfl⟩
      · exact trivial
      · exact trivial
      · exact ⟨⟨by simp, belL_n _ _⟩, trivial⟩
    exact hsl.put (by subst hS; rfl)
  refine wpIn_seq (wpIn_seq (wpIn_rg Wide.w rfl (A := AW G (Ns N w1) w1) rfl (K := fun σ => σ.n = 22 ∧ σ.h = hl [] ∧ σ.s 17 = some (AV.ren (pi [] 0) (.fn (.func 68) [] [.sptr [alwA 0], .sptr [digA 49 d], .sptr [secA s leaf]]))) ?_ (hI1.sat hSt) ?_))
  · subst hS
    refine Ch.mv rfl rfl ?_
    refine Ch.mv rfl rfl ?_
    refine Ch.callP (secrets_fc s leaf) gdN (by repeat (first | exact EvL.nil | (apply EvL.cons; exact rfl))) (by exact (And.intro (by first | exact .rfl _ | exact .untip _ _ _ | exact .nil | exact .func _ | exact AV.wk.sh (renL_s _ _) | exact AV.wk.sh (by simp; first | done | fail)) (And.intro (by first | exact .rfl _ | exact .untip _ _ _ | exact .nil | exact .func _ | exact AV.wk.sh (renL_s _ _) | exact AV.wk.sh (by simp; first | done | fail)) trivial))) (by rfl) rfl ?_
    refine Ch.callP (always_fc 0) gdN (by repeat (first | exact EvL.nil | (apply EvL.cons; exact rfl))) (by exact (And.intro (by first | exact .rfl _ | exact .untip _ _ _ | exact .nil | exact .func _ | exact AV.wk.sh (renL_s _ _) | exact AV.wk.sh (by simp; first | done | fail)) trivial)) (by rfl) rfl ?_
    refine Ch.mf gdN (by repeat (first | exact EvL.nil | (apply EvL.cons; exact rfl))) rfl ?_
    refine Ch.callP (hwk) gdN (EvL.cons rfl (EvL.cons rfl (EvL.cons rfl EvL.nil))) (⟨.rfl _, .rfl _, .of_eq (ren_dig _ _ _).symm, trivial⟩) (by rfl) rfl ?_
    exact Ch.nil ⟨rfl, rfl, rfl⟩
  rintro ρ3 σ3 a3 w3 ⟨n3, h3, k17⟩ s3 f3
  have hI3 := hI1.go s3 n3 f3 (by subst hS; rfl) (fun _ _ _ _ => trivial)
  obtain ⟨hg3, -⟩ := AW.next s3.mem
  obtain ⟨xw, hxw, hvw⟩ := s3.slots 17 _ k17
  rw [h3] at hvw
  obtain ⟨N3, hN3⟩ : ∃ N3, N3 = Nh (AW G (Ns N w1) w1) (hl []) ρ3 w3 := ⟨_, rfl⟩
  rw [← hN3, show AV.ren (pi [] 0) (.fn (.func 68) [] [.sptr [alwA 0], .sptr [digA 49 d], .sptr [secA s leaf]]) = .fn (.func 68) [] [.sptr [alwA 0], .sptr [digA 49 d], .sptr [secA s leaf]] by simp] at hvw
  have hN3b : ∀ b o, N3 b o → b < w3.heap.size ∧ b ≠ w.heap.size := fun b o hn => by
    rw [hN3] at hn
    refine ⟨hn.1, ?_⟩
    rcases hn.2.1 with hx | hx | hx
    · have := hNlt b o hx.1; omega
    · exact hx.elim
    · have : w1.heap.size ≤ b := hx
      omega
  obtain ⟨us, hus, hcap, hev⟩ : ∃ us : Array Value, us.size = 3 ∧ (∀ (i : Nat) (c : AV) (x : Value), [AV.sptr [alwA 0], .sptr [digA 49 d], .sptr [secA s leaf]][i]? = some c → us[i]? = some x → VRel N3 ρ3 w3 c x) ∧ xw = .func (.func 68) #[] us := by
    cases hvw with
    | fn f' fs cs vs us hs1 k1 hs2 k2 =>
      refine ⟨us, hs2, k2, ?_⟩
      obtain rfl := Array.eq_empty_of_size_eq_zero (by simpa using hs1)
      rfl
  subst hev
  have hbk3 : w3.heap[w.heap.size]? = some (.cells #[.pointer none, .slice none 0 0] 77 (0, 0)) := by
    rw [hg3.block _ (by omega) (by simp), hw1]
    exact heap_alloc_new w _
  have hp8 : a3.tmps[8]? = some (.pointer (some ⟨w.heap.size, 0, none⟩)) := by
    rw [f3.2 8 (by decide)]
    simp [Act.put, hs.nt]
  have ht3 : ∀ x ∈ G, ∃ T, w3.heap[x.1]? = some (.cells x.2 T (0, 0)) := (hSt.next hI3.kp).tab
  have hsz3 : a3.tmps.size = 22 := hI3.n
  have hd3 : a3.defers = [] := hI3.d
  show Code.wpIn Fence.wide 4 _ (Code.block 0 _) _ a3 w3
  refine wpIn_block (wpIn_rangeFunc_ownF (F := Fence.wide) (n := 4) rfl (by omega) (gf := 68) (lb := us) (eval_of hxw) trivial (fun args W => run_enter Tryd.func68 rfl rfl args W) (hseq.stops 3 w3 N3 ρ3 us (fun b o hn => (hN3b b o hn).1) ht3 hus hcap) ?_ ?_ (Below.refl _ _) (fun _ => rfl)
    (fun pre W => (∃ v, Bld W w3.heap.size w.heap.size v (vals pre).flatten) ∧ Fr [w.heap.size] w3 W) (fun _ _ _ => False) ?_ (fun _ _ _ _ _ hx _ _ => hx) ⟨⟨_, .inl hbk3, obytes_nil _ _, by simp [Value.ownBlock]⟩, Fr.refl _ _⟩
    (fun x => { tmps := (a3.tmps.setIfInBounds 18 (encT x)).setIfInBounds 9 (encT x), defers := [] }) ?assign ?body ?done (fun _ _ _ _ _ _ hx => hx.elim))
  · intro A' B' C' h1 h2
    exact KpN.trans h1 h2
  · intro W k o o' hk hl hc _
    have key : ∀ b, b < w3.heap.size → (W.putObj k o').heap[b]? = W.heap[b]? := fun b hb => World.putObj_heap_other (by omega)
    refine ⟨fun b o hn => World.cell?_of_block (w := W) (key b (hN3b b o hn).1), fun x hx => key _ ?_⟩
    obtain ⟨T, hT⟩ := ht3 x hx
    exact (Array.getElem?_eq_some_iff.1 hT).1
  · rintro pre W W' row ⟨⟨v, hB⟩, hF⟩ hgr hr
    exact ⟨⟨v, bld_rest hB hgr fun r e => (hr r e).2⟩, hF.grown hgr fun k e => .inr (hr k e).1⟩
  case assign =>
    intro lp x W K hK
    exact wpIn_lv lp (by rw [hsz3]; decide) hK
  case body =>
    rintro lp pre x W ⟨⟨v, hB⟩, hF⟩ hlen
    rw [hLl] at hlen
    have hfl := flat_len pre
    have hx := x.2
    refine wpIn_block (wpIn_region_lit (l := [_, _]) (wpListIn_one rfl (wpIn_mv (Wide.rd lp) (wpListIn_one rfl (wpIn_cl (Wide.rd lp) (vs := #[.pointer (some ⟨w.heap.size, 0, none⟩), .string (B x.1)]) Tryd.func50 rfl rfl ?_ (writeString_ok w3.heap.size w.heap.size v (vals pre).flatten x.1 W hB (by omega) hF.size) ?_)))))
    · have e8 : ∀ y : Value, (Act.put { tmps := (a3.tmps.setIfInBounds 18 (encT x)).setIfInBounds 9 (encT x), defers := [] } (some 19) y).eval (.tmp 8) = .pointer (some ⟨w.heap.size, 0, none⟩) := fun y => eval_of (by
        show ((((a3.tmps.setIfInBounds 18 _).setIfInBounds 9 _).setIfInBounds 19 _))[8]? = _
        rw [Array.getElem?_setIfInBounds_ne (by decide), Array.getElem?_setIfInBounds_ne (by decide), Array.getElem?_setIfInBounds_ne (by decide)]
        exact hp8)
      have e9 : (Act.eval { tmps := (a3.tmps.setIfInBounds 18 (encT x)).setIfInBounds 9 (encT x), defers := [] } (.tmp 9)) = .string (B x.1) := eval_of (by simp [hsz3, encT])
      have e19 : ∀ y : Value, (Act.put { tmps := (a3.tmps.setIfInBounds 18 (encT x)).setIfInBounds 9 (encT x), defers := [] } (some 19) y).eval (.tmp 19) = y := fun y => eval_of (by simp [Act.put, hsz3])
      simp only [List.map_toArray, List.map_cons, List.map_nil, e8, e19, e9]
    · rintro e W' ⟨rfl, v', hB', hF', -⟩
      refine ⟨_, rfl, ?_⟩
      show KeepsOthers W W' ∧ KpN N3 G W W' ∧ _
      have hown : ∀ k, k ∈ w.heap.size :: v.ownBlock.toList → (∃ o : Obj, W.heap[k]? = some o ∧ o.isCells = true) ∧ (k = w.heap.size ∨ w3.heap.size ≤ k) := fun k hk => by
        rcases List.mem_cons.1 hk with rfl | hk
        · exact ⟨by rcases hB.at_ with h | h <;> exact ⟨_, h, rfl⟩, .inl rfl⟩
        · have hk' : v.ownBlock = some k := by simpa using hk
          exact ⟨own_cells hB.own hk', .inr (hB.own.lt k hk').1⟩
      refine ⟨⟨hF'.size, fun k o hko hno => ?_⟩, ⟨fun b o hn => hF'.cell (Nat.lt_of_lt_of_le (hN3b b o hn).1 hF.size) fun hb => ?_, fun y hy => hF'.block _ ?_ fun hb => ?_⟩, ⟨v', by rw [vals_append, vals_one, List.flatten_append]; simpa using hB'⟩, hF.trans' hF' (fun _ h => .inl h) fun k hk => ?_⟩
      · refine (hF'.block k (Array.getElem?_eq_some_iff.1 hko).1 fun hk => ?_).trans hko
        obtain ⟨⟨o', ho', hc'⟩, -⟩ := hown k hk
        rw [hko] at ho'
        cases ho'
        rw [hno] at hc'
        cases hc'
      · have := hN3b b o hn
        rcases (hown b hb).2 with h | h <;> omega
      · obtain ⟨T, hT⟩ := ht3 y hy
        exact Nat.lt_of_lt_of_le (Array.getElem?_eq_some_iff.1 hT).1 hF.size
      · have h1 := htlt y hy
        have h2 := hg3.size
        rcases (hown _ hb).2 with h | h <;> omega
      · rcases (hown k hk).2 with h | h
        · exact .inl (by simp [h])
        · exact .inr h
  case done =>
    rintro D xs W hD rfl ⟨⟨v, hB⟩, hF⟩ hDd
    show Code.wpIn Fence.wide 4 _ (Code.seq _ _) _ { a3 with defers := _ } W
    refine wpIn_seq (wpIn_region_lit (l := [_, _]) (wpListIn_one rfl (wpIn_cl Wide.w (vs := #[.pointer (some ⟨w.heap.size, 0, none⟩)]) Tryd.func51 rfl rfl (by simp only [List.map_toArray, List.map_cons, List.map_nil]; exact congrArg (fun y => #[y]) (eval_of hp8)) (builderString_ok w3.heap.size w.heap.size v _ W hB hne) ?_)))
    rintro e W' ⟨rfl, hF'⟩
    refine ⟨_, rfl, wpListIn_one rfl (wpIn_as Wide.w ?_)⟩
    rw [eval_of (a := Act.put { a3 with defers := _ } (some 21) _) (x := .string (B (vals xs).flatten)) (by simp [Act.put, hsz3])]
    show Code.wpIn Fence.wide 4 _ Code.ret _ _ W'
    have hall : ∀ k, k < w.heap.size → W'.heap[k]? = w.heap[k]? := fun k hk => by
      have z3 := hg3.size
      rw [hF'.block k (by have := hF.size; omega) (fun hkk => by have := (hB.own.lt k (by simpa using hkk)).1; omega), hF.block k (by omega) (by simp; omega), hg3.block k (by omega) (by simp), ho1 k hk]
    have hos : W'.os = w.os ∧ W'.tape = w.tape ∧ W'.output = w.output := by
      rw [hF'.os, hF.os, hg3.os, hF'.tape, hF.tape, hg3.tape, hF'.output, hF.output, hg3.output, hw1]
      exact ⟨rfl, rfl, rfl⟩
    obtain ⟨m1, -, -⟩ := hs.mem.grow hos.1 hos.2.1 hos.2.2 (by have := hF'.size; have := hF.size; have := hg3.size; omega) hall
    refine wpIn_ret ⟨.inr rfl, .inr ⟨D, ?_, ?_, ?_⟩, ρ, ⟨22, ls [(6, sA (signT s leaf msg))], lh [], blt 1⟩, ⟨m1, fun t v ht => ?_, ?_, rfl⟩, Ret.one rfl (.rfl _) trivial hnA⟩
    · rw [put_defers, put_defers]
      show mark D :: a3.defers = _
      rw [hd3]
    · refine (hF'.block D (Array.getElem?_eq_some_iff.1 hDd).1 fun hk => ?_).trans hDd
      obtain ⟨o, ho, hc⟩ := own_cells hB.own (by simpa using hk)
      rw [hDd] at ho
      cases ho
      cases hc
    · have := hs.mem.size
      have := hg3.size
      omega
    · have hm' := ls_some ht
      simp only [List.mem_singleton, Prod.mk.injEq] at hm'
      obtain ⟨rfl, rfl⟩ := hm'
      exact ⟨.string (B (vals xs).flatten), by simp [bare, Act.put, hsz3], by rw [hres]; exact .v _⟩
    · simp [bare, Act.put, hsz3]
end Go.Proofs.YtcojfnjpcpochaaDoor.E
end
section
namespace Go.Proofs.YtcojfnjpcpochaaDoor.E
open Go Go.RowKit Go.Proofs.YtcojfnjpcpochaaDoor.V
section
variable {P : Program} {G : List (Nat × Array Value)} {dst : Option Tmp} {ty : TypeId} {pos : String} {aft : Array Edge} {gd : Option (Nat × Bool)} {t t' e : TypeId} {x y : Operand}
theorem run_eqPtr1 (w : World) (ad : Addr) (hu : P.underlying t = some (.pointer e)) : (binOp .eql t (.pointer (some ad)) (.pointer none)).run P w = .ok (.bool false) w := by
  have key : ∀ d, (Op.equalIn (d + 1) t (.pointer (some ad)) (.pointer none)).run P w = .ok false w := fun d => by simp [Op.equalIn, run_underlying hu, Sem.run_bind, Sem.run_pure, Result.andThen_ok]
  show (do pure (Value.bool (← Op.equalIn (9999 + 1) t (.pointer (some ad)) (.pointer none))) : Sem Value).run P w = _
  rw [Sem.run_bind, key]
  rfl
theorem run_eqPtr0 (w : World) (hu : P.underlying t = some (.pointer e)) : (binOp .eql t (.pointer none) (.pointer none)).run P w = .ok (.bool true) w := by
  have key : ∀ d, (Op.equalIn (d + 1) t (.pointer none) (.pointer none)).run P w = .ok true w := fun d => by simp [Op.equalIn, run_underlying hu, Sem.run_bind, Sem.run_pure, Result.andThen_ok]
  show (do pure (Value.bool (← Op.equalIn (9999 + 1) t (.pointer none) (.pointer none))) : Sem Value).run P w = _
  rw [Sem.run_bind, key]
  rfl
inductive Pts : AV → Prop
  | p (id off : Nat) : Pts (.ptr id off)
  | s (cs : List AV) : Pts (.sptr cs)
theorem Pts.val {N : Nat → Nat → Prop} {ρ : Env} {w : World} {c : AV} {v : Value} (h : Pts c) (hv : VRel N ρ w c v) : ∃ a, v = .pointer (some a) := by
  cases h with
  | p id off => cases hv; exact ⟨_, rfl⟩
  | s cs => cases hv; exact ⟨_, rfl⟩
theorem OpS.eqNil {c : AV} (hp : Pts c) (hu : P.underlying t = some (.pointer e)) : OpS P G ⟨dst, .binOp .eql t x y t', ty, pos, aft, gd⟩ [(x, c), (y, .v (.pointer none))] [] ⟨some (.v (.bool false)), [], []⟩ :=
  OpS.still fun A ρ σ a w _ h _ hs => by
    obtain ⟨ad, hx⟩ := hp.val (hs.ev h.1)
    refine ⟨_, ?_, .v _⟩
    show (do pure (Next.value (← (do eqGuard .eql t x y (a.eval x) (a.eval y); binOp .eql t (a.eval x) (a.eval y)))) : Sem Next).run P w = _
    refine runv ?_
    rw [hx, (hs.ev h.2.1).raw]
    have := run_eqPtr1 (P := P) w ad hu
    simpa [eqGuard, Sem.run_bind, Sem.run_pure, Result.andThen_ok] using this
theorem OpS.eqNilN (hu : P.underlying t = some (.pointer e)) : OpS P G ⟨dst, .binOp .eql t x y t', ty, pos, aft, gd⟩ [(x, .v (.pointer none)), (y, .v (.pointer none))] [] ⟨some (.v (.bool true)), [], []⟩ :=
  OpS.still fun A ρ σ a w _ h _ hs => by
    refine ⟨_, ?_, .v _⟩
    show (do pure (Next.value (← (do eqGuard .eql t x y (a.eval x) (a.eval y); binOp .eql t (a.eval x) (a.eval y)))) : Sem Next).run P w = _
    refine runv ?_
    rw [(hs.ev h.1).raw, (hs.ev h.2.1).raw]
    have := run_eqPtr0 (P := P) w hu
    simpa [eqGuard, Sem.run_bind, Sem.run_pure, Result.andThen_ok] using this
end
end Go.Proofs.YtcojfnjpcpochaaDoor.E
end
section
namespace Go.Proofs.YtcojfnjpcpochaaDoor.E
open Go Go.RowKit Go.Proofs.YtcojfnjpcpochaaDoor.V
section
variable {P : Program} {G : List (Nat × Array Value)} {dst : Option Tmp} {ty : TypeId} {pos : String} {aft : Array Edge} {gd : Option (Nat × Bool)}
theorem OpS.s2b {src d e : TypeId} {x : Operand} {l : List UInt8} (hs : P.underlying src = some .string) (hd : P.underlying d = some (.slice e)) (he : P.underlying e = some (.int .u8)) (hl : l.length ≤ maxLen) :
    OpS P G ⟨dst, .convert src d x, ty, pos, aft, gd⟩ [(x, .v (.string (B l)))] [] ⟨some (.sl none l.length (l.map fun b => .v (bv b))), [], []⟩ := by
  refine OpS.act fun A ρ σ a w _ h hp hu hst => ?_
  have hz : (B l).size = l.length := by simp [B, ByteArray.size]
  have hr := Lib.run_convert_string_bytes (P := P) w src d e (B l) hs hd he
  rw [hz] at hr
  have hge := grownCap_ge w l.length 0 e
  have hsz : (Lib.bytesCells w e (B l)).size = grownCap w l.length 0 e := by
    simp only [Lib.bytesCells, Array.size_append, Array.size_map, Array.size_replicate, hz]
    have : (B l).data.size = l.length := hz
    rw [this]
    omega
  obtain ⟨k1, k2, k3⟩ := new_slice (w' := Lib.bytesWorld w e (B l)) (cs := l.map fun b => AV.v (bv b)) (n := l.length) (cap := grownCap w l.length 0 e) hst.mem rfl rfl rfl (Lib.bytesWorld_size w e (B l)) (fun k hk => Lib.bytesWorld_at_old w e (B l) k hk) (Lib.bytesWorld_at_new w e (B l))
    (by rw [hsz, List.length_map]; exact hge) hge (grownCap_le_maxLen w _ 0 e hl) (fun j c v hc hv => by
      have hjl : j < l.length := by have := (List.getElem?_eq_some_iff.1 hc).1; simpa using this
      have e1 : (Lib.bytesCells w e (B l))[j]? = some (bv l[j]) := by
        unfold Lib.bytesCells
        rw [Array.getElem?_append_left (by rw [Array.size_map]; exact Nat.lt_of_lt_of_eq hjl hz.symm)]
        simp [B, bv, U8, hjl]
      rw [e1] at hv
      cases hv
      rw [List.getElem?_map, List.getElem?_eq_getElem hjl] at hc
      cases hc
      exact ⟨.v _, rfl⟩)
  refine ⟨_, _, ρ, .inl ?_, k1, k2, fun v hv => by cases hv; exact k3⟩
  refine runv (s := convert src d (a.eval x)) ?_
  rw [(hst.ev h.1).raw]
  exact hr
end
end Go.Proofs.YtcojfnjpcpochaaDoor.E
end
section
namespace Go.Proofs.YtcojfnjpcpochaaDoor.E
open Go Go.RowKit Go.Proofs.YtcojfnjpcpochaaDoor.V
section
variable {P : Program} {G : List (Nat × Array Value)} {dst : Option Tmp} {ty : TypeId} {pos : String} {aft : Array Edge} {gd : Option (Nat × Bool)}
end
end Go.Proofs.YtcojfnjpcpochaaDoor.E
end
