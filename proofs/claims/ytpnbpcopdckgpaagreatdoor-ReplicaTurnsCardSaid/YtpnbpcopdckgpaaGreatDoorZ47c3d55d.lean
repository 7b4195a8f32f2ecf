import Derived.Test.YtpnbpcopdckgpaaGreatDoorZ5df34c3a
import Derived.Test.YtpnbpcopdckgpaaGreatDoorZ77f8e77b
import Derived.Test.YtpnbpcopdckgpaaGreatDoorZa71524db
import Derived.RangeFuncFrom
import Derived.RangeFuncLeaves
import Derived.RangeFuncCalls
import Derived.OrdersIn
import Derived.TacticsIn
import Derived.StillTail
namespace Go.Proofs.YtpnbpcopdckgpaaGreatDoor.E
open Go Go.RowKit V
set_option maxRecDepth 4000
set_option maxRecDepth 4000
def vA (k : Txt) : List AV := [sA k, .v (.int .u64 1)]
theorem vA_len (k : Txt) : (vA k).length = 2 := rfl
@[simp] theorem renL_v1 (π : Nat → Nat) (k : Txt) : AV.renL π (vA k) = vA k := rfl
@[simp] theorem renL_vs (π : Nat → Nat) : ∀ l : List Txt, AV.renL π (l.flatMap vA) = l.flatMap vA
 | [] => rfl
 | a :: l => by rw [List.flatMap_cons, renL_append, renL_vs π l]; rfl
@[simp] theorem belL_v1 (u : Nat → Bool) (k : Txt) : AV.belL u (vA k) := ⟨trivial, trivial, trivial⟩
@[simp] theorem belL_vs (u : Nat → Bool) : ∀ l : List Txt, AV.belL u (l.flatMap vA)
 | [] => trivial
 | a :: l => by rw [List.flatMap_cons]; exact belL_app u _ _ ⟨trivial, trivial, trivial⟩ (belL_vs u l)
def esT (l : List Txt) : List (Value × Value) := l.map fun k => (.string (B k), .bool true)
theorem es_fnd (d : TypeDesc) (hd : d = .string) (k : Txt) : ∀ (l : List Txt) (i : Nat), (∀ x ∈ l, x ≠ k) → fnd d (.string (B k)) (esT l) i = some none
 | [], _, _ => rfl
 | x :: l, i, h => by
  have hne : x ≠ k := h x (by simp)
  have hs : Instr.sameNow d (.string (B k)) (.string (B x)) = some false := by
   subst hd
   show some (B k == B x) = some false
   rw [Option.some.injEq, Bool.eq_false_iff]
   intro e
   have e' := (MapKept.bytes_beq _ _).1 e
   exact hne (by have := congrArg (fun y : ByteArray => y.data.toList) e'; simpa [B] using this.symm)
  show (match Instr.sameNow d (.string (B k)) (.string (B x)) with
   | some true => some (some (i, Value.bool true))
   | some false => fnd d (.string (B k)) (esT l) (i + 1)
   | none => none) = _
  rw [hs]
  exact es_fnd d hd k l (i + 1) (fun y hy => h y (by simp [hy]))
theorem es_nil : esT [] = [] := rfl
theorem es_add (l : List Txt) (k : Txt) : mput (esT l) (.string (B k)) (.bool true) none = esT (l ++ [k]) := by
 unfold mput esT
 rw [List.map_append]
 rfl
theorem vA_el (l : List Txt) (m : Nat) (hm : m < l.length) : l.take (m + 1) = l.take m ++ [el l m] := by
 unfold el
 rw [List.take_add_one, List.getElem?_eq_getElem hm]
 rfl
attribute [local irreducible] sum tag input beS rdNum rdText esT
section
variable {G : List (Nat × Array Value)}
theorem rLoad_fc (hm : ShaIn G) (s : Txt) (hl : s.length ≤ 9223372036854775807) : FP G 52 [sA s] [] (.agg [.v (.int .u64 (U64 (loadT s).1)), .v (.int .u64 (U64 (loadT s).2.1)), sA (loadT s).2.2]) [] := by
 have f1 := rNumX_fc (G := G) (s, false) hl
 have g1 := rdNum_len (s, false)
 obtain ⟨v, l1, b1, h1⟩ : ∃ v l1 b1, rdNum (s, false) = (v, l1, b1) := ⟨_, _, _, rfl⟩
 rw [h1] at f1 g1
 have f2 := rNumX_fc (G := G) (l1, b1) (Nat.le_trans g1 hl)
 have g2 := rdNum_len (l1, b1)
 obtain ⟨n, l2, b2, h2⟩ : ∃ n l2 b2, rdNum (l1, b1) = (n, l2, b2) := ⟨_, _, _, rfl⟩
 rw [h2] at f2 g2
 have f3 := rTextX_fc (G := G) (l2, b2) 200 (Nat.le_trans g2 (Nat.le_trans g1 hl)) (by decide)
 obtain ⟨lk, l3, b3, h3⟩ : ∃ lk l3 b3, rdText 200 (l2, b2) = (lk, l3, b3) := ⟨_, _, _, rfl⟩
 rw [h3] at f3
 have he := rEnd_fc (G := G) l3 b3
 have hu : U64 n = (n.toNat : Int) := rfl
 have hfst := rFirst_fc hm
 have e1 : rd1 s = (v, l1, b1) := h1
 have e2 : rd2 s = (n, l2, b2) := by unfold rd2; rw [e1]; exact h2
 have e3 : rd3 s = (lk, l3, b3) := by unfold rd3; rw [e2]; exact h3
 have hR : loadT s = if b3 = true ∨ l3 ≠ [] ∨ 32 < n.toNat then (0, 0, firstT) else (v, n, lk) := by unfold loadT; rw [e1, e2, e3]
 obtain ⟨Bd, hB⟩ : ∃ Bd, Bd = (!b3 && decide (l3 = [])) := ⟨_, rfl⟩
 rw [← hB] at he
 have hc : (Bd = false ∧ loadT s = (0, 0, firstT)) ∨ (Bd = true ∧ 32 < n.toNat ∧ loadT s = (0, 0, firstT)) ∨ (Bd = true ∧ ¬ 32 < n.toNat ∧ loadT s = (v, n, lk)) := by
  cases hb : b3 with
  | true => exact .inl ⟨by rw [hB, hb]; rfl, by rw [hR]; exact if_pos (.inl hb)⟩
  | false =>
   by_cases hn : l3 = []
   ·
    by_cases h32 : 32 < n.toNat
    · exact .inr (.inl ⟨by rw [hB, hb, decide_eq_true hn]; rfl, h32, by rw [hR]; exact if_pos (.inr (.inr h32))⟩)
    have hno : ¬ (b3 = true ∨ l3 ≠ [] ∨ 32 < n.toNat) := by
     rw [hb]
     rintro (h | h | h)
     · cases h
     · exact h hn
     exact h32 h
    exact .inr (.inr ⟨by rw [hB, hb, decide_eq_true hn]; rfl, h32, by rw [hR]; exact if_neg hno⟩)
   exact .inl ⟨by rw [hB, hb, decide_eq_false hn]; rfl, by rw [hR]; exact if_pos (.inr (.inl hn))⟩
 refine FC.of_wpc [(2, some 82)] Tryz.func52 rfl rfl rfl rfl (by exact ⟨_, _, rfl, rfl, rfl, rfl⟩) (by trivial) (by trivial) (Nat.le_of_ble_eq_true rfl) ?_
 intro A hG hnA hAB
 unfold start
 refine WP.rs hG (Ch.a0 (OpS.alloc 0 rfl rfl rfl) rfl rfl (Ch.nil (WP.rs hG (Ch.mv rfl rfl ?_))))
 refine Ch.cH (newReader_fc s) [] 1 gdN (.cons rfl .nil) (.c (.rfl _) .n) rfl (by refine ⟨?_, ?_, ?_, ?_⟩ <;> first | ((conv => lhs; simp only [nrmA, Nat.reduceAdd, renL_vs, renL_v1]); all_goals rfl) | rfl) (by exact trivial) (by exact ⟨rfl, trivial⟩) rfl ?_
 refine Ch.asg rfl rfl (Ch.nil (WP.rs hG (Ch.mv rfl rfl ?_)))
 refine Ch.cH (f1) [1] 2 gdN (.cons rfl .nil) (.c (.rfl _) .n) rfl (by refine ⟨?_, ?_, ?_, ?_⟩ <;> first | ((conv => lhs; simp only [nrmA, Nat.reduceAdd, renL_vs, renL_v1]); all_goals rfl) | rfl) (by exact ⟨rfl, trivial⟩) (by exact trivial) rfl ?_
 refine Ch.mv rfl rfl ?_
 refine Ch.cH (f2) [1] 2 gdN (.cons rfl .nil) (.c (.rfl _) .n) rfl (by refine ⟨?_, ?_, ?_, ?_⟩ <;> first | ((conv => lhs; simp only [nrmA, Nat.reduceAdd, renL_vs, renL_v1]); all_goals rfl) | rfl) (by exact ⟨rfl, trivial⟩) (by exact trivial) rfl ?_
 refine Ch.mv rfl rfl ?_
 refine Ch.cH (f3) [1] 2 gdN (.cons rfl (.cons rfl .nil)) (.c (.rfl _) (.c (.rfl _) .n)) rfl (by refine ⟨?_, ?_, ?_, ?_⟩ <;> first | ((conv => lhs; simp only [nrmA, Nat.reduceAdd, renL_vs, renL_v1]); all_goals rfl) | rfl) (by exact ⟨rfl, trivial⟩) (by exact trivial) rfl ?_
 refine Ch.pup gdN (by repeat (first | exact EvP.nil | (apply EvP.cons; exact rfl))) (OpS.build (cs := [.v (.int .u64 (U64 v)), .v (.int .u64 (U64 n)), sA lk]) rfl rfl rfl rfl rfl (by rfl)) rfl ?_
 refine Ch.a0 (OpS.alloc 2 rfl rfl rfl) rfl rfl (Ch.ws rfl rfl (OpS.storePA (cs := [.v (.int .u64 0), .v (.int .u64 0), sA []]) (c := .agg [.v (.int .u64 (U64 v)), .v (.int .u64 (U64 n)), sA lk]) rfl rfl rfl (by exact Nat.le_refl 3)) rfl ?_)
 refine Ch.nil (WP.seq ?_)
 rcases hc with ⟨rfl, hq⟩ | ⟨rfl, hq⟩ | ⟨rfl, hq⟩
 ·
  have hs := hq
  refine WP.rs hG (Ch.mv rfl rfl ?_)
  refine Ch.cH (he) [1] 3 gdN (.cons rfl .nil) (.c (.rfl _) .n) rfl (by refine ⟨?_, ?_, ?_, ?_⟩ <;> first | ((conv => lhs; simp only [nrmA, Nat.reduceAdd, renL_vs, renL_v1]); all_goals rfl) | rfl) (by exact ⟨rfl, trivial⟩) (by exact trivial) rfl ?_
  refine Ch.p1 rfl (OpS.not) rfl (Ch.mv rfl rfl (Ch.skU (gdF rfl rfl rfl) rfl (Ch.skU (gdF rfl rfl rfl) rfl (Ch.skU (gdF rfl rfl rfl) rfl (Ch.p2 rfl rfl (OpS.pickT) rfl (Ch.nil (WP.cond_true rfl (WP.rs hG (Ch.callP (hfst) gdN .nil .n (by rfl) rfl ?_)))))))))
  refine Ch.pup gdN (by repeat (first | exact EvP.nil | (apply EvP.cons; exact rfl))) (OpS.build (cs := [.v (.int .u64 0), .v (.int .u64 0), sA firstT]) rfl rfl rfl rfl rfl (by rfl)) rfl ?_
  refine Ch.ws rfl rfl (OpS.storePA (cs := [.v (.int .u64 0), .v (.int .u64 0), sA []]) (c := .agg [.v (.int .u64 0), .v (.int .u64 0), sA firstT]) rfl rfl rfl (by exact Nat.le_refl 3)) rfl ?_
  refine Ch.nil (WP.from (SEnt.frz (t := 2) rfl rfl) (WP.ret ?_))
  rw [hs]
  refine (Ret.of (rs := [2]) (vs := [.sptr [.v (.int .u64 0), .v (.int .u64 0), sA firstT]]) (H' := []) (res := .sptr [.v (.int .u64 0), .v (.int .u64 0), sA firstT]) [] ?_ ?_ rfl ?_ (by simp only [List.length_cons, List.length_nil]; decide) ?_).1
  · exact na_of hnA rfl
  · (repeat (first | exact trivial | (refine ⟨⟨(by trivial), _, rfl, .rfl _⟩, ?_⟩)))
  · (repeat (first | exact trivial | refine HFromL.skip ?_ | (refine ⟨⟨(by first | trivial | (simp; first | done | fail) | exact ⟨trivial, hbel _⟩), (by first | rfl | (simp; first | done | fail))⟩, ?_⟩)))
  rfl
 ·
  have hs := hq
  refine WP.rs hG (Ch.mv rfl rfl ?_)
  refine Ch.cH (he) [1] 3 gdN (.cons rfl .nil) (.c (.rfl _) .n) rfl (by refine ⟨?_, ?_, ?_, ?_⟩ <;> first | ((conv => lhs; simp only [nrmA, Nat.reduceAdd, renL_vs, renL_v1]); all_goals rfl) | rfl) (by exact ⟨rfl, trivial⟩) (by exact trivial) rfl ?_
  refine Ch.p1 rfl (OpS.not) rfl (Ch.mv rfl rfl (Ch.g1 rfl rfl rfl (OpS.fieldAddr rfl rfl rfl rfl) rfl (Ch.pu (by exact gdT rfl rfl) (by exact ⟨rfl, trivial⟩) (OpS.loadP rfl rfl rfl) (by exact ⟨rfl, trivial⟩) rfl ?_)))
  refine Ch.g2 rfl rfl rfl rfl (OpS.gtrT (by omega)) rfl ?_
  refine Ch.p2 rfl rfl (OpS.pickF) rfl (Ch.nil (WP.cond_true rfl (WP.rs hG (Ch.callP (hfst) gdN .nil .n (by rfl) rfl ?_))))
  refine Ch.pup gdN (by repeat (first | exact EvP.nil | (apply EvP.cons; exact rfl))) (OpS.build (cs := [.v (.int .u64 0), .v (.int .u64 0), sA firstT]) rfl rfl rfl rfl rfl (by rfl)) rfl ?_
  refine Ch.ws rfl rfl (OpS.storePA (cs := [.v (.int .u64 0), .v (.int .u64 0), sA []]) (c := .agg [.v (.int .u64 0), .v (.int .u64 0), sA firstT]) rfl rfl rfl (by exact Nat.le_refl 3)) rfl ?_
  refine Ch.nil (WP.from (SEnt.frz (t := 2) rfl rfl) (WP.ret ?_))
  rw [hs.2]
  refine (Ret.of (rs := [2]) (vs := [.sptr [.v (.int .u64 0), .v (.int .u64 0), sA firstT]]) (H' := []) (res := .sptr [.v (.int .u64 0), .v (.int .u64 0), sA firstT]) [] ?_ ?_ rfl ?_ (by simp only [List.length_cons, List.length_nil]; decide) ?_).1
  · exact na_of hnA rfl
  · (repeat (first | exact trivial | (refine ⟨⟨(by trivial), _, rfl, .rfl _⟩, ?_⟩)))
  · (repeat (first | exact trivial | refine HFromL.skip ?_ | (refine ⟨⟨(by first | trivial | (simp; first | done | fail) | exact ⟨trivial, hbel _⟩), (by first | rfl | (simp; first | done | fail))⟩, ?_⟩)))
  rfl
 have hs := hq
 refine WP.rs hG (Ch.mv rfl rfl ?_)
 refine Ch.cH (he) [1] 3 gdN (.cons rfl .nil) (.c (.rfl _) .n) rfl (by refine ⟨?_, ?_, ?_, ?_⟩ <;> first | ((conv => lhs; simp only [nrmA, Nat.reduceAdd, renL_vs, renL_v1]); all_goals rfl) | rfl) (by exact ⟨rfl, trivial⟩) (by exact trivial) rfl ?_
 refine Ch.p1 rfl (OpS.not) rfl (Ch.mv rfl rfl (Ch.g1 rfl rfl rfl (OpS.fieldAddr rfl rfl rfl rfl) rfl (Ch.pu (by exact gdT rfl rfl) (by exact ⟨rfl, trivial⟩) (OpS.loadP rfl rfl rfl) (by exact ⟨rfl, trivial⟩) rfl ?_)))
 refine Ch.g2 rfl rfl rfl rfl (OpS.gtrF (by omega)) rfl ?_
 refine Ch.p2 rfl rfl (OpS.pickF) rfl (Ch.nil (WP.cond_false rfl (WP.skip (WP.rs hG (Ch.q1 rfl (OpS.loadPA (off := 0) (sz := 3) (cs := [.v (.int .u64 (U64 v)), .v (.int .u64 (U64 n)), sA lk]) rfl rfl rfl rfl (by exact Nat.le_refl 3)) rfl rfl ?_)))))
 refine Ch.ws rfl rfl (OpS.storePA (cs := [.v (.int .u64 0), .v (.int .u64 0), sA []]) (c := .agg [.v (.int .u64 (U64 v)), .v (.int .u64 (U64 n)), sA lk]) rfl rfl rfl (by exact Nat.le_refl 3)) rfl ?_
 refine Ch.nil (WP.from (SEnt.frz (t := 2) rfl rfl) (WP.ret ?_))
 rw [hs.2]
 refine (Ret.of (rs := [2]) (vs := [.sptr [.v (.int .u64 (U64 v)), .v (.int .u64 (U64 n)), sA lk]]) (H' := []) (res := .sptr [.v (.int .u64 (U64 v)), .v (.int .u64 (U64 n)), sA lk]) [] ?_ ?_ rfl ?_ (by simp only [List.length_cons, List.length_nil]; decide) ?_).1
 · exact na_of hnA rfl
 · (repeat (first | exact trivial | (refine ⟨⟨(by trivial), _, rfl, .rfl _⟩, ?_⟩)))
 · (repeat (first | exact trivial | refine HFromL.skip ?_ | (refine ⟨⟨(by first | trivial | (simp; first | done | fail) | exact ⟨trivial, hbel _⟩), (by first | rfl | (simp; first | done | fail))⟩, ?_⟩)))
 rfl
theorem vClone_fc (ks : List Txt) (n : Nat) (hn : ks.length = n + 1) (hmax : n ≤ 1000) : FP G 54 [.sl none (n + 1) (ks.flatMap vA)] [] (.sl none (n + 1) (ks.flatMap vA)) [] := by
 have hfl := flatA_len vA 2 vA_len ks
 rw [hn] at hfl
 have e : AV.sl none (n + 1) (ks.flatMap vA) = .sl none (0 + (n + 1)) ([] ++ ks.flatMap vA) := by rw [Nat.zero_add]; rfl
 refine FC.of_wp [2] Tryz.func54 rfl rfl rfl rfl ⟨⟨(fun k hk => by cases hk), belL_vs _ _⟩, trivial⟩ trivial (Nat.le_of_ble_eq_true rfl) ?_
 intro A hG hnA hAB
 unfold start
 refine WP.rs hG (Ch.asg rfl rfl (Ch.nil (WP.seq (WP.rs hG (Ch.mv rfl rfl (Ch.p2 rfl rfl (OpS.eqSl (.sl _ _ _) rfl) rfl (Ch.nil (WP.cond_false rfl (WP.skip ?_)))))))))
 refine WP.rs hG (Ch.a0 (OpS.buildSlice0 0 rfl rfl rfl) rfl rfl (Ch.mv rfl rfl (Ch.a2 rfl rfl (OpS.append (sz := 2) (bb := 24) 1 rfl rfl rfl rfl rfl (by decide) (SrcA.sl rfl (by exact hfl)) rfl hfl (by unfold maxLen; omega) rfl (by omega)) rfl rfl rfl ?_)))
 refine Ch.asg rfl rfl (Ch.nil (WP.ret ?_))
 rw [e]
 refine (Ret.of (rs := [2]) (vs := [.sl none (0 + (n + 1)) ([] ++ ks.flatMap vA)]) (H' := []) (res := .sl none (0 + (n + 1)) ([] ++ ks.flatMap vA)) [] ?_ ?_ rfl ?_ (by simp only [List.length_cons, List.length_nil]; decide) ?_).1
 · exact na_of hnA rfl
 · (repeat (first | exact trivial | (refine ⟨⟨(by (simp; first | done | fail)), _, rfl, (by exact AV.wk.sh (by simp [renL_vs, renL_append]; first | done | fail))⟩, ?_⟩)))
 · (repeat (first | exact trivial | refine HFromL.skip ?_ | (refine ⟨⟨(by first | trivial | (simp; first | done | fail) | exact ⟨trivial, hbel _⟩), (by first | rfl | (simp [renL_vs, renL_append]; first | done | fail) | (conv => rhs; simp only [AO.ren, AV.ren, AV.renL, Option.map_some, renL_vs, renL_append]) <;> rfl)⟩, ?_⟩)))
 rfl
theorem sClone_fc (l : List Txt) (n : Nat) (hn : l.length = n + 1) (hmax : n ≤ 1000) : FP G 58 [.sl none (n + 1) (l.map sA)] [] (.sl none (n + 1) (l.map sA)) [] := by
 have hfl : (l.map sA).length = (n + 1) * 1 := by rw [List.length_map, hn]; omega
 have e : AV.sl none (n + 1) (l.map sA) = .sl none (0 + (n + 1)) ([] ++ l.map sA) := by rw [Nat.zero_add]; rfl
 refine FC.of_wp [2] Tryz.func58 rfl rfl rfl rfl ⟨⟨(fun k hk => by cases hk), belL_s _ _⟩, trivial⟩ trivial (Nat.le_of_ble_eq_true rfl) ?_
 intro A hG hnA hAB
 unfold start
 refine WP.rs hG (Ch.asg rfl rfl (Ch.nil (WP.seq (WP.rs hG (Ch.mv rfl rfl (Ch.p2 rfl rfl (OpS.eqSl (.sl _ _ _) rfl) rfl (Ch.nil (WP.cond_false rfl (WP.skip ?_)))))))))
 refine WP.rs hG (Ch.a0 (OpS.buildSlice0 0 rfl rfl rfl) rfl rfl (Ch.mv rfl rfl (Ch.a2 rfl rfl (OpS.append (sz := 1) (bb := 16) 1 rfl rfl rfl rfl rfl (by decide) (SrcA.sl rfl (by exact hfl)) rfl hfl (by unfold maxLen; omega) rfl (by omega)) rfl rfl rfl ?_)))
 refine Ch.asg rfl rfl (Ch.nil (WP.ret ?_))
 rw [e]
 refine (Ret.of (rs := [2]) (vs := [.sl none (0 + (n + 1)) ([] ++ l.map sA)]) (H' := []) (res := .sl none (0 + (n + 1)) ([] ++ l.map sA)) [] ?_ ?_ rfl ?_ (by simp only [List.length_cons, List.length_nil]; decide) ?_).1
 · exact na_of hnA rfl
 · (repeat (first | exact trivial | (refine ⟨⟨(by (simp; first | done | fail)), _, rfl, (by exact AV.wk.sh (by simp [renL_s, renL_append]; first | done | fail))⟩, ?_⟩)))
 · (repeat (first | exact trivial | refine HFromL.skip ?_ | (refine ⟨⟨(by first | trivial | (simp; first | done | fail) | exact ⟨trivial, hbel _⟩), (by first | rfl | (simp [renL_s, renL_append]; first | done | fail) | (conv => rhs; simp only [AO.ren, AV.ren, AV.renL, Option.map_some, renL_s, renL_append]) <;> rfl)⟩, ?_⟩)))
 rfl
theorem sCloneN_fc : FP G 58 [.v (.slice none 0 0)] [] (.v (.slice none 0 0)) [] := by
 refine FC.of_wp [2] Tryz.func58 rfl rfl rfl rfl (by trivial) (by trivial) (Nat.le_of_ble_eq_true rfl) ?_
 intro A hG hnA hAB
 unfold start
 refine WP.rs hG (Ch.asg rfl rfl (Ch.nil (WP.seq (WP.rs hG (Ch.mv rfl rfl (Ch.p2 rfl rfl (OpS.eqSlN rfl) rfl (Ch.nil (WP.cond_true rfl (WP.rs hG ?_)))))))))
 refine Ch.asg rfl rfl (Ch.nil (WP.ret ?_))
 refine (Ret.of (rs := [2]) (vs := [.v (.slice none 0 0)]) (H' := []) (res := .v (.slice none 0 0)) [] ?_ ?_ rfl ?_ (by simp only [List.length_cons, List.length_nil]; decide) ?_).1
 · exact na_of hnA rfl
 · (repeat (first | exact trivial | (refine ⟨⟨(by trivial), _, rfl, .rfl _⟩, ?_⟩)))
 · (repeat (first | exact trivial | refine HFromL.skip ?_ | (refine ⟨⟨(by first | trivial | (simp; first | done | fail) | exact ⟨trivial, hbel _⟩), (by first | rfl | (simp; first | done | fail))⟩, ?_⟩)))
 rfl
theorem cRight_fc (ks : List Txt) (h0 : 0 < ks.length) (h8 : ks.length ≤ 8) (h40 : ∀ x ∈ ks, x.length = 40) (hnd : ∀ i j, i < j → j < ks.length → el ks i ≠ el ks j) : FP G 51 [.sl none ks.length (ks.flatMap vA)] [] (.v (.bool true)) [] := by
 have hfl := flatA_len vA 2 vA_len ks
 refine FC.of_wp [2] Tryz.func51 rfl rfl rfl rfl ⟨⟨(fun k hk => by cases hk), belL_vs _ _⟩, trivial⟩ trivial (Nat.le_of_ble_eq_true rfl) ?_
 intro A hG hnA hAB
 unfold start
 refine WP.rs hG (Ch.asg rfl rfl (Ch.nil (WP.rs hG (Ch.a0 (OpS.makeMap 0) rfl rfl (Ch.asg rfl rfl (Ch.nil (WP.seq (WP.rs hG (Ch.mv rfl rfl ?_)))))))))
 refine Ch.p1 rfl (OpS.len rfl) rfl (Ch.mv rfl rfl (Ch.nil (WP.block ?_)))
 refine WP.loop (fun k σ => ∃ m : Nat, m + k = ks.length ∧ σ = ⟨45, ls [(0, .sl none ks.length (ks.flatMap vA)), (3, .mp 0), (7, .sl none ks.length (ks.flatMap vA)), (8, .v (.int .i64 (ks.length : Int))), (9, .v (.int .i64 (m : Int)))], lh [(0, .map (esT (ks.take m)))], blt 1⟩) (ks.length) (Ent.of [0] ?_ ?_ ?_ ?_).se ⟨0, by omega, rfl⟩ ?_
 · exact na_of hnA rfl
 · (repeat (first | exact trivial | (refine ⟨⟨(by first | trivial | (simp; first | done | fail)), _, rfl, (by first | exact .rfl _ | exact .of_eq (by simp [renL_vs, es_nil]; first | done | fail))⟩, ?_⟩)))
 · (repeat (first | exact trivial | (refine ⟨⟨rfl, (by trivial), (by (simp [renL_vs, es_nil]; first | done | fail))⟩, ?_⟩)))
 · exact nd_of rfl
 rintro k σ ⟨m, hm', rfl⟩
 refine WP.rs hG (Ch.p2 rfl rfl (OpS.int rfl (by exact rfl)) rfl ?_)
 refine Ch.nil (WP.seq ?_)
 refine WP.cond rfl ?_ ?_
 ·
  intro ht
  have ht' := of_decide_eq_true ht
  have hlt : m < ks.length := by omega
  have hk40 : (el ks m).length = 40 := h40 _ (by unfold el; rw [List.getElem?_eq_getElem hlt]; exact List.getElem_mem hlt)
  have hno : ∀ x ∈ ks.take m, x ≠ el ks m := by
   intro x hx
   obtain ⟨i, hi, rfl⟩ := List.getElem_of_mem hx
   rw [List.length_take] at hi
   have := hnd i m (by omega) hlt
   unfold el at this
   rw [List.getElem?_eq_getElem (by omega)] at this
   rw [List.getElem_take]
   exact this
  have hf := es_fnd .string rfl (el ks m) (ks.take m) 0 hno
  have ha := es_add (ks.take m) (el ks m)
  rw [← vA_el ks m hlt] at ha
  refine WP.skip (WP.seq (WP.block (WP.rs hG (Ch.p2 rfl rfl (OpS.indexF rfl rfl rfl vA_len (by decide) (Int.toNat_natCast _) (by omega) (by omega) rfl) rfl ?_))))
  refine Ch.p1 rfl (OpS.loadSA rfl rfl rfl) rfl (Ch.a0 (OpS.alloc 1 rfl rfl rfl) rfl rfl (Ch.ws rfl rfl (OpS.storePA (cs := [sA [], .v (.int .u64 0)]) (c := .agg (vA (el ks m))) rfl rfl rfl (by exact Nat.le_refl 2)) rfl ?_))
  refine Ch.nil (WP.seq (WP.rs hG (Ch.p1 rfl (OpS.fieldAddr rfl rfl rfl rfl) rfl (Ch.q1 rfl (OpS.loadP rfl rfl rfl) rfl rfl (Ch.p1 rfl (OpS.lenS rfl) rfl (Ch.p2 rfl rfl (OpS.neqF (by omega)) rfl ?_))))))
  refine Ch.mv rfl rfl (Ch.g1 rfl rfl rfl (OpS.fieldAddr rfl rfl rfl rfl) rfl (Ch.pu (by exact gdT rfl rfl) (by exact ⟨rfl, trivial⟩) (OpS.loadP rfl rfl rfl) (by exact ⟨rfl, trivial⟩) rfl ?_))
  refine Ch.g2 rfl rfl rfl rfl (OpS.int (op := .lss) (v' := .bool false) rfl rfl) rfl (Ch.p2 rfl rfl (OpS.pickF) rfl (Ch.mv rfl rfl (Ch.g1 rfl rfl rfl (OpS.fieldAddr rfl rfl rfl rfl) rfl (Ch.pu (by exact gdT rfl rfl) (by exact ⟨rfl, trivial⟩) (OpS.loadP rfl rfl rfl) (by exact ⟨rfl, trivial⟩) rfl ?_))))
  refine Ch.g2 rfl rfl rfl rfl (OpS.int (op := .gtr) (v' := .bool false) rfl rfl) rfl (Ch.p2 rfl rfl (OpS.pickF) rfl (Ch.mv rfl rfl (Ch.gm rfl rfl rfl rfl (Ch.g1 rfl rfl rfl (OpS.fieldAddr rfl rfl rfl rfl) rfl (Ch.pu (by exact gdT rfl rfl) (by exact ⟨rfl, trivial⟩) (OpS.loadP rfl rfl rfl) (by exact ⟨rfl, trivial⟩) rfl ?_)))))
  refine Ch.pu (by exact gdT rfl rfl) (by exact ⟨rfl, rfl, trivial⟩) (OpS.lookup (k := .string (B (el ks m))) (r := none) rfl rfl trivial rfl rfl hf rfl) (by exact ⟨rfl, trivial⟩) rfl ?_
  refine Ch.p2 rfl rfl (OpS.pickF) rfl (Ch.nil (WP.cond_false rfl (WP.skip (WP.rg hG (Ch.mv rfl rfl (Ch.p1 rfl (OpS.fieldAddr rfl rfl rfl rfl) rfl (Ch.q1 rfl (OpS.loadP rfl rfl rfl) rfl rfl (Ch.wr gdN (by exact ⟨rfl, rfl, rfl, trivial⟩) (OpS.mapUpdate (k := .string (B (el ks m))) (v := .bool true) (r := none) rfl rfl trivial hf) (by exact ⟨rfl, trivial⟩) (by exact trivial) ?_))))))))
  refine Ch.nil (WP.rg hG (Ch.p2 rfl rfl (OpS.inc m (by omega) (by omega)) rfl ?_))
  refine Ch.mv rfl rfl (Ch.nil ?_)
  refine ⟨k - 1, _, by omega, (Ent.of [0] ?_ ?_ ?_ ?_).se, m + 1, by omega, rfl⟩
  · exact na_of hnA rfl
  · (repeat (first | exact trivial | (refine ⟨⟨(by first | trivial | (simp; first | done | fail)), _, rfl, (by first | exact .rfl _ | exact .of_eq (by simp [renL_vs, ha]; first | done | fail))⟩, ?_⟩)))
  · (repeat (first | exact trivial | (refine ⟨⟨rfl, (by trivial), (by (simp [renL_vs, ha]; first | done | fail))⟩, ?_⟩)))
  exact nd_of rfl
 intro ht
 have ht' := of_decide_eq_false ht
 obtain rfl : m = ks.length := by omega
 refine WP.exit (WP.rs hG (Ch.mv rfl rfl (Ch.p1 rfl (OpS.len rfl) rfl (Ch.p2 rfl rfl (OpS.geqT (by omega)) rfl ?_))))
 refine Ch.mv rfl rfl (Ch.gm rfl rfl rfl rfl (Ch.g1 rfl rfl rfl (OpS.len rfl) rfl (Ch.g2 rfl rfl rfl rfl (OpS.leqT (by omega)) rfl ?_)))
 refine Ch.p2 rfl rfl (OpS.pickT) rfl (Ch.asg rfl rfl (Ch.nil (WP.ret ?_)))
 refine (Ret.of (rs := [2]) (vs := [.v (.bool true)]) (H' := []) (res := .v (.bool true)) [] ?_ ?_ rfl ?_ (by simp only [List.length_cons, List.length_nil]; decide) ?_).1
 · exact na_of hnA rfl
 · (repeat (first | exact trivial | (refine ⟨⟨(by trivial), _, rfl, .rfl _⟩, ?_⟩)))
 · (repeat (first | exact trivial | refine HFromL.skip ?_ | (refine ⟨⟨(by first | trivial | (simp; first | done | fail) | exact ⟨trivial, hbel _⟩), (by first | rfl | (simp; first | done | fail))⟩, ?_⟩)))
 rfl
end
end Go.Proofs.YtpnbpcopdckgpaaGreatDoor.E
namespace Go.Proofs.YtpnbpcopdckgpaaGreatDoor.E
open Go Go.RowKit V
set_option maxRecDepth 4000
def oc1 (x : UInt64) : UInt64 := (shr64 x 1 &&& 6148914691236517205) + (x &&& 6148914691236517205)
def oc2 (x : UInt64) : UInt64 := (shr64 x 2 &&& 3689348814741910323) + (x &&& 3689348814741910323)
def oc3 (x : UInt64) : UInt64 := (shr64 x 4 + x) &&& 1085102592571150095
def oc4 (x : UInt64) : UInt64 := x + shr64 x 8
def oc5 (x : UInt64) : UInt64 := x + shr64 x 16
def oc6 (x : UInt64) : UInt64 := x + shr64 x 32
def oc (n : Nat) : UInt64 := oc6 (oc5 (oc4 (oc3 (oc2 (oc1 (UInt64.ofNat n))))))
theorem oc_small : ∀ n : Nat, n ≤ 128 → (oc n).toNat < 2 ^ 63 ∧ (decide ((oc n).toNat &&& 127 = 1) = (mayN n)) := by
 intro n h
 have : ∀ n : Fin 129, (oc n.1).toNat < 2 ^ 63 ∧ (decide ((oc n.1).toNat &&& 127 = 1) = (mayN n.1)) := by decide +kernel
 exact this ⟨n, by omega⟩
attribute [local irreducible] oc1 oc2 oc3 oc4 oc5 oc6
theorem oc1_eq (x : UInt64) : (shr64 x 1 &&& 6148914691236517205) + (x &&& 6148914691236517205) = oc1 x := by unfold oc1; rfl
theorem oc2_eq (x : UInt64) : (shr64 x 2 &&& 3689348814741910323) + (x &&& 3689348814741910323) = oc2 x := by unfold oc2; rfl
theorem oc3_eq (x : UInt64) : (shr64 x 4 + x) &&& 1085102592571150095 = oc3 x := by unfold oc3; rfl
theorem oc4_eq (x : UInt64) : x + shr64 x 8 = oc4 x := by unfold oc4; rfl
theorem oc5_eq (x : UInt64) : x + shr64 x 16 = oc5 x := by unfold oc5; rfl
theorem oc6_eq (x : UInt64) : x + shr64 x 32 = oc6 x := by unfold oc6; rfl
theorem ones64_fc {G : List (Nat × Array Value)} (n : Nat) (hn : n ≤ 128) : FP G 91 [.v (.int .u64 (U64 (UInt64.ofNat n)))] [] (.v (.int .i64 (((oc n).toNat &&& 127 : Nat) : Int))) [] := by
 have h63 := (oc_small n hn).1
 refine FC.of_wp [2] Tryz.func91 rfl rfl rfl rfl (by trivial) (by trivial) (Nat.le_of_ble_eq_true rfl) ?_
 intro A hG hnA hAB
 unfold start
 refine WP.rs hG (Ch.asg rfl rfl (Ch.nil (WP.rs hG (Ch.mv rfl rfl (Ch.p2 rfl rfl (OpS.shr_u64 (j := 1) (by decide) rfl) rfl ?_)))))
 refine Ch.p2 rfl rfl (OpS.and_u64 (b := 6148914691236517205)) rfl (Ch.mv rfl rfl (Ch.p2 rfl rfl (OpS.and_u64 (b := 6148914691236517205)) rfl (Ch.p2 rfl rfl (OpS.add_u64) rfl (Ch.asg rfl rfl (Ch.nil ?_)))))
 rw [oc1_eq]
 refine WP.rs hG (Ch.mv rfl rfl (Ch.p2 rfl rfl (OpS.shr_u64 (j := 2) (by decide) rfl) rfl ?_))
 refine Ch.p2 rfl rfl (OpS.and_u64 (b := 3689348814741910323)) rfl (Ch.mv rfl rfl (Ch.p2 rfl rfl (OpS.and_u64 (b := 3689348814741910323)) rfl (Ch.p2 rfl rfl (OpS.add_u64) rfl (Ch.asg rfl rfl (Ch.nil ?_)))))
 rw [oc2_eq]
 refine WP.rs hG (Ch.mv rfl rfl (Ch.p2 rfl rfl (OpS.shr_u64 (j := 4) (by decide) rfl) rfl ?_))
 refine Ch.mv rfl rfl (Ch.p2 rfl rfl (OpS.add_u64) rfl (Ch.p2 rfl rfl (OpS.and_u64 (b := 1085102592571150095)) rfl (Ch.asg rfl rfl (Ch.nil ?_))))
 rw [oc3_eq]
 refine WP.rs hG (Ch.mv rfl rfl (Ch.mv rfl rfl (Ch.p2 rfl rfl (OpS.shr_u64 (j := 8) (by decide) rfl) rfl ?_)))
 refine Ch.p2 rfl rfl (OpS.add_u64) rfl (Ch.asg rfl rfl (Ch.nil ?_))
 rw [oc4_eq]
 refine WP.rs hG (Ch.mv rfl rfl (Ch.mv rfl rfl (Ch.p2 rfl rfl (OpS.shr_u64 (j := 16) (by decide) rfl) rfl ?_)))
 refine Ch.p2 rfl rfl (OpS.add_u64) rfl (Ch.asg rfl rfl (Ch.nil ?_))
 rw [oc5_eq]
 refine WP.rs hG (Ch.mv rfl rfl (Ch.mv rfl rfl (Ch.p2 rfl rfl (OpS.shr_u64 (j := 32) (by decide) rfl) rfl ?_)))
 refine Ch.p2 rfl rfl (OpS.add_u64) rfl (Ch.asg rfl rfl (Ch.nil ?_))
 rw [oc6_eq]
 have hoc : oc6 (oc5 (oc4 (oc3 (oc2 (oc1 (UInt64.ofNat n)))))) = oc n := rfl
 rw [hoc]
 refine WP.rs hG (Ch.mv rfl rfl (Ch.p1 rfl (OpS.conv (k := .i64) rfl rfl (cv_i64_64 (oc n) h63)) rfl (Ch.p2 rfl rfl (OpS.andN (a := (oc n).toNat) (b := 127) h63 (by decide)) rfl ?_)))
 refine Ch.asg rfl rfl (Ch.nil ?_)
 refine WP.ret (Ret.one rfl (by exact .rfl _) (by trivial) hnA)
theorem ones_fc {G : List (Nat × Array Value)} (n : Nat) (hn : n ≤ 128) : FP G 60 [.v (.int .u64 (U64 (UInt64.ofNat n)))] [] (.v (.int .i64 (((oc n).toNat &&& 127 : Nat) : Int))) [] := by
 refine FC.of_wp [2] Tryz.func60 rfl rfl rfl rfl (by trivial) (by trivial) (Nat.le_of_ble_eq_true rfl) ?_
 intro A hG hnA hAB
 unfold start
 refine WP.rs hG (Ch.asg rfl rfl (Ch.nil (WP.seq (WP.cond_false rfl (WP.skip (WP.rs hG (Ch.mv rfl rfl (Ch.callP (ones64_fc n hn) gdN (.cons rfl .nil) (.c (.rfl _) .n) (by rfl) rfl ?_))))))))
 refine Ch.asg rfl rfl (Ch.nil ?_)
 refine WP.ret (Ret.one rfl (by exact .rfl _) (by trivial) hnA)
theorem mayA_fc {G : List (Nat × Array Value)} : FP G 174 [.v (.int .i64 ((0 : Nat) : Int))] [] (.v (.bool false)) [] := by
 refine FC.of_wp [2] Tryz.func174 rfl rfl rfl rfl (by trivial) (by trivial) (Nat.le_of_ble_eq_true rfl) ?_
 intro A hG hnA hAB
 unfold start
 refine WP.rs hG (Ch.asg rfl rfl (Ch.nil (WP.rs hG (Ch.mv rfl rfl (Ch.p2 rfl rfl (OpS.int (v' := .bool false) rfl (by simp; first | done | fail)) rfl ?_)))))
 refine Ch.mv rfl rfl (Ch.skU (gdF rfl rfl rfl) rfl (Ch.skU (gdF rfl rfl rfl) rfl (Ch.p2 rfl rfl (OpS.pickF) rfl (Ch.mv rfl rfl (Ch.skU (gdF rfl rfl rfl) rfl (Ch.skU (gdF rfl rfl rfl) rfl (Ch.skU (gdF rfl rfl rfl) rfl (Ch.skU (gdF rfl rfl rfl) rfl (Ch.p2 rfl rfl (OpS.pickF) rfl ?_)))))))))
 refine Ch.asg rfl rfl (Ch.nil ?_)
 refine WP.ret (Ret.one rfl (by exact .rfl _) (by trivial) hnA)
theorem mayB_fc {G : List (Nat × Array Value)} (n : Nat) (hn : 128 < n) : FP G 174 [.v (.int .i64 (n : Int))] [] (.v (.bool false)) [] := by
 refine FC.of_wp [2] Tryz.func174 rfl rfl rfl rfl (by trivial) (by trivial) (Nat.le_of_ble_eq_true rfl) ?_
 intro A hG hnA hAB
 unfold start
 refine WP.rs hG (Ch.asg rfl rfl (Ch.nil (WP.rs hG (Ch.mv rfl rfl (Ch.p2 rfl rfl (OpS.int (op := .geq) (v' := .bool true) rfl (by simp; omega)) rfl ?_)))))
 refine Ch.mv rfl rfl (Ch.gm rfl rfl rfl rfl (Ch.g2 rfl rfl rfl rfl (OpS.int (op := .leq) (v' := .bool false) rfl (by simp; omega)) rfl ?_))
 refine Ch.p2 rfl rfl (OpS.pickT) rfl (Ch.mv rfl rfl (Ch.skU (gdF rfl rfl rfl) rfl (Ch.skU (gdF rfl rfl rfl) rfl (Ch.skU (gdF rfl rfl rfl) rfl (Ch.skU (gdF rfl rfl rfl) rfl (Ch.p2 rfl rfl (OpS.pickF) rfl (Ch.asg rfl rfl (Ch.nil ?_))))))))
 refine WP.ret (Ret.one rfl (by exact .rfl _) (by trivial) hnA)
theorem mayC_fc {G : List (Nat × Array Value)} (n : Nat) (h0 : 1 ≤ n) (hn : n ≤ 128) : FP G 174 [.v (.int .i64 (n : Int))] [] (.v (.bool (mayN n))) [] := by
 have hoc := (oc_small n hn).2
 refine FC.of_wp [2] Tryz.func174 rfl rfl rfl rfl (by trivial) (by trivial) (Nat.le_of_ble_eq_true rfl) ?_
 intro A hG hnA hAB
 unfold start
 refine WP.rs hG (Ch.asg rfl rfl (Ch.nil (WP.rs hG (Ch.mv rfl rfl (Ch.p2 rfl rfl (OpS.int (op := .geq) (v' := .bool true) rfl (by simp; omega)) rfl ?_)))))
 refine Ch.mv rfl rfl (Ch.gm rfl rfl rfl rfl (Ch.g2 rfl rfl rfl rfl (OpS.int (op := .leq) (v' := .bool true) rfl (by simp; omega)) rfl ?_))
 refine Ch.p2 rfl rfl (OpS.pickT) rfl (Ch.mv rfl rfl (Ch.gm rfl rfl rfl rfl (Ch.g1 rfl rfl rfl (OpS.conv rfl rfl (by exact cv_u64_nat _)) rfl ?_)))
 refine Ch.callP (ones_fc n hn) (gdT rfl rfl) (.cons rfl .nil) (.c (.rfl _) .n) (by rfl) rfl ?_
 refine Ch.g2 rfl rfl rfl rfl (OpS.int (op := .eql) (v' := .bool (mayN n)) rfl (by rw [← hoc]; exact natb_eq _ 1)) rfl ?_
 refine Ch.p2 rfl rfl (OpS.pickT) rfl (Ch.asg rfl rfl (Ch.nil ?_))
 refine WP.ret (Ret.one rfl (by exact .rfl _) (by trivial) hnA)
theorem may_fc {G : List (Nat × Array Value)} (n : Nat) : FP G 174 [.v (.int .i64 (n : Int))] [] (.v (.bool (mayN n))) [] := by
 by_cases h0 : n = 0
 · subst h0; exact mayA_fc
 by_cases h1 : n ≤ 128
 · exact mayC_fc n (by omega) h1
 have : mayN n = false := by
  cases h : mayN n with
  | false => rfl
  | true =>
   obtain ⟨k, hk, rfl⟩ := mayN_iff.1 h
   have := Nat.pow_le_pow_right (n := 2) (by decide) hk
   omega
 rw [this]
 exact mayB_fc n (by omega)
theorem mayT_fc {G : List (Nat × Array Value)} (n : Nat) (h : mayN n = true) : FP G 174 [.v (.int .i64 (n : Int))] [] (.v (.bool true)) [] := by
 have := may_fc (G := G) n
 rwa [h] at this
theorem mayF_fc {G : List (Nat × Array Value)} (n : Nat) (h : mayN n = false) : FP G 174 [.v (.int .i64 (n : Int))] [] (.v (.bool false)) [] := by
 have := may_fc (G := G) n
 rwa [h] at this
theorem inp2_le {a b : Txt} (h : a.length + b.length ≤ 140737488355300) : (input 5 [a, b]).length ≤ 140737488355328 := by
 have := inp2_length a b
 unfold inp2 at this
 omega
attribute [local irreducible] sum tag input
theorem tinput_fc {G : List (Nat × Array Value)} (a b : Txt) (h : a.length + b.length ≤ 140737488355300) : FP G 176 [sA a, sA b] [] (sA (inp2 a b)) [] := by
 refine FC.of_wp [4] Tryz.func176 rfl rfl rfl rfl (by trivial) (by trivial) (Nat.le_of_ble_eq_true rfl) ?_
 intro A hG hnA hAB
 unfold start
 refine WP.rs hG (Ch.asg rfl rfl (Ch.nil (WP.rs hG (Ch.mv rfl rfl (Ch.mv rfl rfl (Ch.pup gdN (by repeat (first | exact EvP.nil | (apply EvP.cons; exact rfl))) (OpS.slice1 rfl rfl rfl rfl rfl rfl (by rfl) rfl (by rfl)) rfl ?_))))))
 refine Ch.callP (input_fc 5 [a, b] (inp2_le h)) gdN (.cons rfl (.cons rfl .nil)) (.c (.rfl _) (.c (.rfl _) .n)) (by rfl) rfl ?_
 refine Ch.asg rfl rfl (Ch.nil ?_)
 refine WP.ret (Ret.one rfl (by exact .rfl _) (by trivial) hnA)
theorem node_fc {G : List (Nat × Array Value)} (hm : ShaIn G) (a b : Txt) (h : a.length + b.length ≤ 140737488355300) : FP G 164 [sA a, sA b] [] (sA (node a b)) [] := by
 have hl := inp2_le h
 refine FC.of_wp [4] Tryz.func164 rfl rfl rfl rfl (by trivial) (by trivial) (Nat.le_of_ble_eq_true rfl) ?_
 intro A hG hnA hAB
 unfold start
 refine WP.rs hG (Ch.asg rfl rfl (Ch.nil (WP.rs hG (Ch.mv rfl rfl (Ch.mv rfl rfl (Ch.callP (tinput_fc a b h) gdN (.cons rfl (.cons rfl .nil)) (.c (.rfl _) (.c (.rfl _) .n)) (by rfl) rfl ?_))))))
 refine Ch.callP (sum_fc hm (inp2 a b) (by unfold inp2; omega)) gdN (.cons rfl .nil) (.c (.rfl _) .n) (by rfl) rfl ?_
 refine Ch.asg rfl rfl (Ch.nil ?_)
 exact WP.ret (Ret.one rfl (.of_eq (by simp [node_eq])) trivial hnA)
theorem pairs_fc0 {G : List (Nat × Array Value)} (f : Txt → Txt → Txt) (g : FuncId) (l : List Txt) (hl : l.length ≤ 1000000) (hf : ∀ j, 2 * j + 1 < l.length → FP G g [sA (tget l (2 * j)), sA (tget l (2 * j + 1))] [] (sA (f (tget l (2 * j)) (tget l (2 * j + 1)))) []) :
  FP G 175 [.sl none l.length (l.map sA), .v (.func (.func g) #[] #[])] [] (.sl (some 0) (pairsL f l).length ((pairsL f l).map sA)) [some (.tip 9 1 (pairsL f l).length)] := by
 refine FC.of_wp [4] Tryz.func175 rfl rfl rfl rfl ⟨⟨by simp, belL_s _ _⟩, trivial, trivial⟩ trivial (Nat.le_of_ble_eq_true rfl) ?_
 intro A hG hnA hAB
 unfold start
 refine WP.rs hG (Ch.asg rfl rfl (Ch.nil (WP.rs hG (Ch.mv rfl rfl (Ch.p1 rfl (OpS.len rfl) rfl (Ch.p2 rfl rfl (OpS.quo (by omega) (by omega) (by omega)) rfl ?_))))))
 refine Ch.al gdN (by exact ⟨rfl, rfl, trivial⟩) (OpS.makeTip (n := l.length / 2) (bb := 16) 0 rfl rfl rfl rfl rfl (by simp) rfl (by omega) (by unfold maxLen; omega)) (by exact trivial) (by exact ⟨rfl, trivial⟩) rfl ?_
 refine Ch.asg rfl rfl (Ch.nil (WP.seq (WP.rs hG (Ch.asg rfl rfl (Ch.nil (WP.block ?_))))))
 refine WP.loop (fun k σ => ∃ m ii : Nat, (ii = 2 * m + 1 ∧ m + k = l.length / 2) ∧ σ = ⟨32, ls [(0, .sl none l.length (l.map sA)), (1, .v (.func (.func g) #[] #[])), (5, .sl (some 0) m ((pairsL f (l.take (2 * m))).map sA)), (6, .v (.int .i64 (ii : Int)))], lh [(0, .tip 9 1 m)], blt 1⟩) (l.length / 2) (Ent.of [] ?_ ?_ ?_ ?_).se ⟨0, 1, by omega, rfl⟩ ?_
 · exact na_of hnA rfl
 · (repeat (first | exact trivial | (refine ⟨⟨(by first | trivial | (simp; first | done | fail)), _, rfl, (by first | exact .rfl _ | exact .of_eq (by simp [pairsL]; first | done | fail))⟩, ?_⟩)))
 · (repeat (first | exact trivial | (refine ⟨⟨rfl, (by trivial), (by rfl)⟩, ?_⟩)))
 · exact nd_of rfl
 rintro k σ ⟨m, ii, ⟨hi, hm⟩, rfl⟩
 refine WP.seq (WP.rs hG (Ch.mv rfl rfl (Ch.mv rfl rfl (Ch.p1 rfl (OpS.len rfl) rfl (Ch.p2 rfl rfl (OpS.int rfl (by exact rfl)) rfl ?_)))))
 refine Ch.nil ?_
 refine WP.cond rfl ?_ ?_
 ·
  intro ht
  have ht' := of_decide_eq_true ht
  have hc := pairsL_step f l m (by omega)
  have hfm := hf m (by omega)
  have hpl : (pairsL f (l.take (2 * m))).length = m := by rw [pairsL_length, List.length_take]; omega
  have e1 : tget l (2 * m) = el l (ii - 1) := by rw [show ii - 1 = 2 * m by omega]; rfl
  have e2 : tget l (2 * m + 1) = el l ii := by rw [hi]; rfl
  rw [e1, e2] at hc hfm
  refine WP.skip (WP.seq (WP.block (WP.rgD (by kernel_rfl) hG (Ch.mv rfl rfl (Ch.mv rfl rfl (Ch.mv rfl rfl (Ch.mv rfl rfl (Ch.p2 rfl rfl (OpS.int rfl (by exact wr64 (by omega))) rfl ?_))))))))
  refine Ch.p2 rfl rfl (OpS.indexM rfl rfl rfl (by with_reducible exact tnLit _ _) (by omega) (by omega) (by rfl)) rfl ?_
  refine Ch.p1 rfl (OpS.loadS rfl rfl) rfl (Ch.mv rfl rfl (Ch.mv rfl rfl (Ch.p2 rfl rfl (OpS.indexM rfl rfl rfl (by with_reducible exact Int.toNat_natCast _) (by omega) (by omega) (by rfl)) rfl ?_)))
  refine Ch.p1 rfl (OpS.loadS rfl rfl) rfl (Ch.callD (hfm) gdN (by repeat (first | exact EvL.nil | (apply EvL.cons; exact rfl))) (by exact (And.intro (by exact .rfl _) (And.intro (by exact .rfl _) trivial))) (by rfl) rfl ?_)
  refine Ch.pup gdN (by repeat (first | exact EvP.nil | (apply EvP.cons; exact rfl))) (OpS.slice1 rfl rfl rfl rfl rfl rfl (by rfl) rfl (by rfl)) rfl ?_
  refine Ch.a2 rfl rfl (OpS.append (sz := 1) (bb := 16) 1 rfl rfl rfl rfl rfl (by decide) (SrcA.sl rfl (by simp)) (by (simp; assumption)) (by simp) (by unfold maxLen; omega) rfl (by omega)) rfl rfl rfl ?_
  refine Ch.asg rfl rfl (Ch.nilD ?_ (by kernel_rfl))
  refine WP.rg hG (Ch.mv rfl rfl (Ch.p2 rfl rfl (OpS.int rfl (by exact wr64 (by omega))) rfl ?_))
  refine Ch.asg rfl rfl (Ch.nil ?_)
  refine ⟨k - 1, _, by omega, (Ent.of [1] ?_ ?_ ?_ ?_).se, m + 1, ii + 2, by omega, rfl⟩
  · exact na_of hnA rfl
  · (repeat (first | exact trivial | (refine ⟨⟨(by first | trivial | (simp; first | done | fail)), _, rfl, (by first | exact .rfl _ | exact .of_eq (by simp [hc]; first | done | fail))⟩, ?_⟩)))
  · (repeat (first | exact trivial | (refine ⟨⟨rfl, (by trivial), (by rfl)⟩, ?_⟩)))
  exact nd_of rfl
 intro ht
 have ht' := of_decide_eq_false ht
 have hc := pairsL_last f l m (by omega) (by omega)
 have hpl : (pairsL f l).length = m := by rw [pairsL_length]; omega
 refine WP.exit (WP.rs hG (Ch.mv rfl rfl (Ch.asg rfl rfl (Ch.nil ?_))))
 rw [hpl]
 exact WP.ret (Ret.row 0 rfl (.of_eq (by simp [hc])) (by (simp; first | done | fail)) rfl trivial hnA)
theorem pairs_fc {G : List (Nat × Array Value)} (f : Txt → Txt → Txt) (g : FuncId) (l : List Txt) (hl : l.length ≤ 1000000) (hf : ∀ j, 2 * j + 1 < l.length → FP G g [sA (tget l (2 * j)), sA (tget l (2 * j + 1))] [] (sA (f (tget l (2 * j)) (tget l (2 * j + 1)))) []) :
  FP G 175 [.sl none l.length (l.map sA), .v (.func (.func g) #[] #[])] [] (.sl none (pairsL f l).length ((pairsL f l).map sA)) [] :=
 (pairs_fc0 f g l hl hf).shut (belL_s _ _) (renL_s _ _)
def Mid (l : List Txt) : Prop := ∀ x ∈ l, x.length ≤ 70368744177600
theorem Mid.two {l : List Txt} (h : Mid l) {i j : Nat} (hi : i < l.length) (hj : j < l.length) : (tget l i).length + (tget l j).length ≤ 140737488355300 := by
 have := h _ (tget_mem hi)
 have := h _ (tget_mem hj)
 omega
theorem Mid.pairs {l : List Txt} : Mid (pairsL node l) := fun x hx => by rw [pairs_mem_length x hx]; omega
theorem Mid.of32 {l : List Txt} (h : ∀ x ∈ l, x.length = 32) : Mid l := fun x hx => by rw [h x hx]; omega
theorem pairsNode_fc {G : List (Nat × Array Value)} (hm : ShaIn G) (l : List Txt) (hl : l.length ≤ 1000000) (h : Mid l) :
  FP G 175 [.sl none l.length (l.map sA), .v (.func (.func 164) #[] #[])] [] (.sl none (pairsL node l).length ((pairsL node l).map sA)) [] :=
 pairs_fc node 164 l hl fun j hj => node_fc hm _ _ (h.two (by omega) hj)
end Go.Proofs.YtpnbpcopdckgpaaGreatDoor.E
namespace Go.Proofs.YtpnbpcopdckgpaaGreatDoor.E
open Go Go.RowKit V
set_option maxRecDepth 4000
theorem pow_gt {k : Nat} (h : ¬ (2 ^ k : Nat) ≤ 1) : ∃ j, k = j + 1 := by
 cases k with
 | zero => exact absurd (Nat.le_refl 1) h
 | succ j => exact ⟨j, rfl⟩
theorem pow_le {k : Nat} (h : (2 ^ k : Nat) ≤ 1) : k = 0 := by
 cases k with
 | zero => rfl
 | succ j =>
  have := Nat.pow_pos (n := j) (show 0 < 2 by decide)
  rw [Nat.pow_succ] at h
  omega
theorem pow7 {k : Nat} (h : k ≤ 7) : (2 ^ k : Nat) ≤ 128 := Nat.pow_le_pow_right (n := 2) (by decide) h
theorem mayL {l : List Txt} {h : Nat} (hh : h ≤ 7) (hl : l.length = 2 ^ h) : mayN l.length = true := by rw [hl]; exact mayN_pow hh
attribute [local irreducible] sum tag input node rootN pathN inputsN climbL climbedL
theorem rootN_0 (l : List Txt) : rootN 0 l = tget l 0 := by unfold rootN; rfl
theorem rootN_s (n : Nat) (l : List Txt) : rootN (n + 1) l = rootN n (pairsL node l) := by rw [rootN]
theorem pathN_0 (l : List Txt) (i : Nat) : pathN 0 l i = [] := by unfold pathN; rfl
theorem pathN_s (n : Nat) (l : List Txt) (i : Nat) : pathN (n + 1) l i = tget l (sib i) :: pathN n (pairsL node l) (i / 2) := by rw [pathN]
theorem xor_sib (i : Nat) : i ^^^ 1 = sib i := by
 have h2 : (i ^^^ 1) / 2 = i / 2 := by rw [Nat.xor_div_two]; simp
 have h1 : (i ^^^ 1) % 2 = (i % 2 + 1) % 2 := by
  have h3 : (i ^^^ 1) % 2 = i % 2 ^^^ 1 % 2 := Nat.xor_mod_two_pow (n := 1)
  have h4 : i % 2 = 0 ∨ i % 2 = 1 := by omega
  rcases h4 with h4 | h4 <;> rw [h3, h4] <;> rfl
 unfold sib
 split <;> omega
theorem pathF_fc {G : List (Nat × Array Value)} (l : List Txt) (i : Int) (h : mayN l.length = false) : FP G 163 [.sl none l.length (l.map sA), .v (.int .i64 i)] [] (.sl none ([] : List Txt).length (([] : List Txt).map sA)) [] := by
 refine FC.of_wp [4] Tryz.func163 rfl rfl rfl rfl ⟨⟨by simp, belL_s _ _⟩, trivial, trivial⟩ trivial (Nat.le_of_ble_eq_true rfl) ?_
 intro A hG hnA hAB
 unfold start
 refine WP.rs hG (Ch.asg rfl rfl (Ch.nil (WP.seq (WP.rs hG (Ch.mv rfl rfl (Ch.p1 rfl (OpS.len rfl) rfl (Ch.callP (mayF_fc l.length h) gdN (.cons rfl .nil) (.c (.rfl _) .n) (by rfl) rfl ?_)))))))
 refine Ch.p1 rfl (OpS.not) rfl (Ch.mv rfl rfl (Ch.skU (gdF rfl rfl rfl) rfl (Ch.skU (gdF rfl rfl rfl) rfl (Ch.p2 rfl rfl (OpS.pickT) rfl (Ch.mv rfl rfl (Ch.skU (gdF rfl rfl rfl) rfl (Ch.skU (gdF rfl rfl rfl) rfl (Ch.skU (gdF rfl rfl rfl) rfl (Ch.skU (gdF rfl rfl rfl) rfl ?_)))))))))
 refine Ch.p2 rfl rfl (OpS.pickT) rfl (Ch.nil (WP.cond_true rfl (WP.rs hG (Ch.asg rfl rfl (Ch.nil ?_)))))
 exact WP.ret (Ret.one rfl .nil (by simp) hnA)
theorem pathG_fc {G : List (Nat × Array Value)} (l : List Txt) (i : Int) (h : mayN l.length = true) (hi : i < 0) : FP G 163 [.sl none l.length (l.map sA), .v (.int .i64 i)] [] (.sl none ([] : List Txt).length (([] : List Txt).map sA)) [] := by
 refine FC.of_wp [4] Tryz.func163 rfl rfl rfl rfl ⟨⟨by simp, belL_s _ _⟩, trivial, trivial⟩ trivial (Nat.le_of_ble_eq_true rfl) ?_
 intro A hG hnA hAB
 unfold start
 refine WP.rs hG (Ch.asg rfl rfl (Ch.nil (WP.seq (WP.rs hG (Ch.mv rfl rfl (Ch.p1 rfl (OpS.len rfl) rfl (Ch.callP (mayT_fc l.length h) gdN (.cons rfl .nil) (.c (.rfl _) .n) (by rfl) rfl ?_)))))))
 refine Ch.p1 rfl (OpS.not) rfl (Ch.mv rfl rfl (Ch.gm rfl rfl rfl rfl (Ch.g2 rfl rfl rfl rfl (OpS.int (op := .lss) (v' := .bool true) rfl (by simp; omega)) rfl ?_)))
 refine Ch.p2 rfl rfl (OpS.pickF) rfl (Ch.mv rfl rfl (Ch.skU (gdF rfl rfl rfl) rfl (Ch.skU (gdF rfl rfl rfl) rfl (Ch.skU (gdF rfl rfl rfl) rfl (Ch.skU (gdF rfl rfl rfl) rfl (Ch.p2 rfl rfl (OpS.pickT) rfl (Ch.nil (WP.cond_true rfl (WP.rs hG ?_)))))))))
 refine Ch.asg rfl rfl (Ch.nil ?_)
 exact WP.ret (Ret.one rfl .nil (by simp) hnA)
theorem pathH_fc {G : List (Nat × Array Value)} (l : List Txt) (i : Int) (h : mayN l.length = true) (hi0 : 0 ≤ i) (hi : (l.length : Int) ≤ i) : FP G 163 [.sl none l.length (l.map sA), .v (.int .i64 i)] [] (.sl none ([] : List Txt).length (([] : List Txt).map sA)) [] := by
 refine FC.of_wp [4] Tryz.func163 rfl rfl rfl rfl ⟨⟨by simp, belL_s _ _⟩, trivial, trivial⟩ trivial (Nat.le_of_ble_eq_true rfl) ?_
 intro A hG hnA hAB
 unfold start
 refine WP.rs hG (Ch.asg rfl rfl (Ch.nil (WP.seq (WP.rs hG (Ch.mv rfl rfl (Ch.p1 rfl (OpS.len rfl) rfl (Ch.callP (mayT_fc l.length h) gdN (.cons rfl .nil) (.c (.rfl _) .n) (by rfl) rfl ?_)))))))
 refine Ch.p1 rfl (OpS.not) rfl (Ch.mv rfl rfl (Ch.gm rfl rfl rfl rfl (Ch.g2 rfl rfl rfl rfl (OpS.int (op := .lss) (v' := .bool false) rfl (by simp; omega)) rfl ?_)))
 refine Ch.p2 rfl rfl (OpS.pickF) rfl (Ch.mv rfl rfl (Ch.gm rfl rfl rfl rfl (Ch.gm rfl rfl rfl rfl (Ch.g1 rfl rfl rfl (OpS.len rfl) rfl (Ch.g2 rfl rfl rfl rfl (OpS.int (op := .geq) (v' := .bool true) rfl (by simp; omega)) rfl ?_)))))
 refine Ch.p2 rfl rfl (OpS.pickF) rfl (Ch.nil (WP.cond_true rfl (WP.rs hG (Ch.asg rfl rfl (Ch.nil ?_)))))
 exact WP.ret (Ret.one rfl .nil (by simp) hnA)
theorem pathY_fc {G : List (Nat × Array Value)} (hm : ShaIn G) (l : List Txt) (h i : Nat) (hh : h ≤ 7) (hl : l.length = 2 ^ h) (hi : i < 2 ^ h) (hok : Mid l) : FP G 163 [.sl none l.length (l.map sA), .v (.int .i64 (i : Int))] [] (.sl (some 0) (pathN h l i).length ((pathN h l i).map sA)) [some (.tip 9 1 (pathN h l i).length)] := by
 have hmay := mayL hh hl
 refine FC.of_wp [4] Tryz.func163 rfl rfl rfl rfl ⟨⟨by simp, belL_s _ _⟩, trivial, trivial⟩ trivial (Nat.le_of_ble_eq_true rfl) ?_
 intro A hG hnA hAB
 unfold start
 refine WP.rs hG (Ch.a1 rfl (OpS.assignTip 0 9 1) rfl rfl (Ch.nil (WP.seq (WP.rs hG (Ch.mv rfl rfl (Ch.p1 rfl (OpS.len rfl) rfl (Ch.callP (mayT_fc l.length hmay) gdN (.cons rfl .nil) (.c (.rfl _) .n) (by rfl) rfl ?_)))))))
 refine Ch.p1 rfl (OpS.not) rfl (Ch.mv rfl rfl (Ch.gm rfl rfl rfl rfl (Ch.g2 rfl rfl rfl rfl (OpS.int rfl (by exact rfl)) rfl ?_)))
 refine Ch.p2 rfl rfl (OpS.pickF) rfl (Ch.mv rfl rfl (Ch.gm rfl rfl rfl rfl (Ch.gm rfl rfl rfl rfl (Ch.g1 rfl rfl rfl (OpS.len rfl) rfl (Ch.g2 rfl rfl rfl rfl (OpS.int (op := .geq) (v' := .bool false) rfl (by simp; omega)) rfl ?_)))))
 refine Ch.p2 rfl rfl (OpS.pickF) rfl (Ch.nil (WP.cond_false rfl (WP.skip (WP.seq (WP.block ?_)))))
 refine WP.loop (fun k σ => ∃ (cur out : List Txt) (ic : Nat), (cur.length = 2 ^ k ∧ k ≤ 7 ∧ out ++ pathN k cur ic = pathN h l i ∧ Mid cur ∧ out.length + k = h ∧ ic < 2 ^ k) ∧ σ = ⟨34, ls [(0, .sl none cur.length (cur.map sA)), (1, .v (.int .i64 (ic : Int))), (4, .sl (some 0) out.length (out.map sA))], lh [(0, .tip 9 1 out.length)], blt 1⟩) (h) (Ent.of [] ?_ ?_ ?_ ?_).se ⟨l, [], i, ⟨hl, hh, rfl, hok, by simp, hi⟩, rfl⟩ ?_
 · exact na_of hnA rfl
 · (repeat (first | exact trivial | (refine ⟨⟨(by first | trivial | (simp; first | done | fail)), _, rfl, (by first | exact .rfl _ | exact .of_eq (by simp; first | done | fail))⟩, ?_⟩)))
 · (repeat (first | exact trivial | (refine ⟨⟨rfl, (by trivial), (by rfl)⟩, ?_⟩)))
 · exact nd_of rfl
 rintro k σ ⟨cur, out, ic, ⟨hlen, hk7, hpath, hmid, hle, hic⟩, rfl⟩
 have hp7 := pow7 hk7
 refine WP.seq (WP.rs hG (Ch.mv rfl rfl (Ch.p1 rfl (OpS.len rfl) rfl (Ch.p2 rfl rfl (OpS.int rfl (by exact rfl)) rfl ?_))))
 refine Ch.nil ?_
 refine WP.cond rfl ?_ ?_
 ·
  intro ht
  have ht' := of_decide_eq_true ht
  obtain ⟨j, rfl⟩ := pow_gt (k := k) (by omega)
  have hps : 2 ^ (j + 1) = 2 * 2 ^ j := by rw [Nat.pow_succ]; omega
  have hsib := sib_lt (i := ic) (n := 2 ^ j) (by omega)
  have hx := xor_sib ic
  rw [pathN_s, List.append_cons] at hpath
  have he : tget cur (sib ic) = el cur (sib ic) := rfl
  rw [he, ← hx] at hpath
  rw [← hx] at hsib
  refine WP.skip (WP.seq (WP.block (WP.rs hG (Ch.mv rfl rfl (Ch.mv rfl rfl (Ch.mv rfl rfl (Ch.p2 rfl rfl (OpS.xorN (b := 1) (by omega) (by decide)) rfl ?_)))))))
  refine Ch.p2 rfl rfl (OpS.indexM rfl rfl rfl (by with_reducible exact Int.toNat_natCast _) (by omega) (by omega) (by rfl)) rfl ?_
  refine Ch.p1 rfl (OpS.loadS rfl rfl) rfl (Ch.pup gdN (by repeat (first | exact EvP.nil | (apply EvP.cons; exact rfl))) (OpS.slice1 rfl rfl rfl rfl rfl rfl (by rfl) rfl (by rfl)) rfl ?_)
  refine Ch.a2 rfl rfl (OpS.append (sz := 1) (bb := 16) 1 rfl rfl rfl rfl rfl (by decide) (SrcA.sl rfl (by simp)) (by (simp; done)) (by simp) (by unfold maxLen; omega) rfl (by omega)) rfl rfl rfl ?_
  refine Ch.asg rfl rfl (Ch.nil (WP.rg hG (Ch.mv rfl rfl (Ch.callS (pairsNode_fc hm cur (by omega) hmid) gdN (.cons rfl (.cons rfl .nil)) (.c (AV.wk.sh (renL_s _ _)) (.c (.rfl _) .n)) (by simp) rfl ?_))))
  refine Ch.asg rfl rfl (Ch.nil (WP.rg hG (Ch.mv rfl rfl (Ch.p2 rfl rfl (OpS.quo (by omega) (by omega) (by omega)) rfl ?_))))
  refine Ch.asg rfl rfl (Ch.nil ?_)
  refine ⟨j, _, by omega, (Ent.of [1] ?_ ?_ ?_ ?_).se, pairsL node cur, out ++ [el cur (ic ^^^ 1)], ic / 2, ⟨half_len hlen, by omega, hpath, Mid.pairs, by simp; omega, by omega⟩, rfl⟩
  · exact na_of hnA rfl
  · (repeat (first | exact trivial | (refine ⟨⟨(by first | trivial | (simp; first | done | fail)), _, rfl, (by first | exact .rfl _ | exact .of_eq (by simp; first | done | fail))⟩, ?_⟩)))
  · (repeat (first | exact trivial | (refine ⟨⟨rfl, (by trivial), (by (simp; first | done | fail))⟩, ?_⟩)))
  exact nd_of rfl
 intro ht
 have ht' := of_decide_eq_false ht
 obtain rfl := pow_le (k := k) (by omega)
 rw [pathN_0, List.append_nil] at hpath
 refine WP.exit ?_
 rw [← hpath]
 exact WP.ret (Ret.row 0 rfl (by exact .of_eq (by simp; first | done | fail)) (by (simp; first | done | fail)) rfl trivial hnA)
theorem path_fc {G : List (Nat × Array Value)} (hm : ShaIn G) (l : List Txt) (i : Int) (hok : Mid l) : FP G 163 [.sl none l.length (l.map sA), .v (.int .i64 i)] [] (.sl none (pathT l i).length ((pathT l i).map sA)) [] := by
 cases h : mayN l.length with
 | false =>
  have : pathT l i = [] := by simp [pathT, h]
  rw [this]
  exact pathF_fc l i h
 | true =>
  by_cases h0 : i < 0
  ·
   have : pathT l i = [] := by rw [pathT, if_neg (by omega)]
   rw [this]
   exact pathG_fc l i h h0
  by_cases h1 : i < l.length
  ·
   obtain ⟨k, hk, hl⟩ := mayN_iff.1 h
   obtain ⟨j, rfl⟩ : ∃ j : Nat, i = (j : Int) := ⟨i.toNat, by omega⟩
   rw [pathT_eq hk hl (by omega)]
   exact (pathY_fc hm l k j hk hl (by omega) hok).shut (belL_s _ _) (renL_s _ _)
  have : pathT l i = [] := by rw [pathT, if_neg (by omega)]
  rw [this]
  exact pathH_fc l i h (by omega) (by omega)
def ordL (x : Txt) (i : Nat) (s : Txt) : Txt := if i % 2 = 0 then x else s
def ordR (x : Txt) (i : Nat) (s : Txt) : Txt := if i % 2 = 0 then s else x
def MidC (x : Txt) (p : List Txt) : Prop := ∀ s ∈ p, x.length + s.length ≤ 140737488355300 ∧ s.length + 32 ≤ 140737488355300
theorem MidC.next {x : Txt} {p : List Txt} (h : MidC x p) (i : Nat) (s : Txt) : MidC (par x i s) p := fun y hy => by
 have := h y hy
 rw [par_length]
 omega
theorem MidC.of32 {x : Txt} {p : List Txt} (hx : x.length ≤ 140737488355264) (h : ∀ y ∈ p, y.length = 32) : MidC x p := fun y hy => by
 have := h y hy
 omega
end Go.Proofs.YtpnbpcopdckgpaaGreatDoor.E
namespace Go.Proofs.YtpnbpcopdckgpaaGreatDoor.E
open Go Go.RowKit V
inductive Wide : Fence → Prop
 | w : Wide Fence.wide
 | rd (l : Nat) : Wide (Fence.wide.inRound l)
theorem Wide.fn {F : Fence} (h : Wide F) (f : FuncId) : F.fn f := by cases h <;> trivial
theorem Wide.depth {F : Fence} (h : Wide F) : F.depth = none := by cases h <;> rfl
theorem Wide.calls {F : Fence} (hF : Wide F) {n : Nat} {P : Program} {f : FuncId} {args : Array Value} {w : World} {R : Ending → World → Prop} (h : Calls P f args w R) : CallsIn F n P f args w R := by
 cases hF with
 | w => exact callsIn_wide.2 h
 | rd l => exact CallsIn.inRound l (callsIn_wide.2 h)
theorem Wide.rows {F : Fence} (hF : Wide F) {n : Nat} {P : Program} {row : String} {args : Array Value} {w : World} {R : Value → World → Prop} (h : Rows P row args w R) : RowsIn F n P row args w R := by
 have h' : RowsIn Fence.wide n P row args w R := fun c cs _ => let ⟨v, w', r, s⟩ := h c cs; ⟨v, w', r, stepsIn_wide.2 s⟩
 cases hF with
 | w => exact h'
 | rd l => exact h'
theorem put_frame {a : Act} {d : Option Tmp} {v : Value} {t : Nat} (h : d ≠ some t) : (a.put d v).tmps[t]? = a.tmps[t]? := by
 cases d with
 | none => rfl
 | some d => exact Array.getElem?_setIfInBounds_ne (fun e => h (by rw [e]))
def bare (a : Act) : Act := { a with defers := [] }
theorem bare_put (a : Act) (d : Option Tmp) (v : Value) : bare (a.put d v) = (bare a).put d v := by cases d <;> rfl
theorem put_defers (a : Act) (d : Option Tmp) (v : Value) : (a.put d v).defers = a.defers := by cases d <;> rfl
theorem bare_of {a : Act} (h : a.defers = []) : bare a = a := by obtain ⟨t, d⟩ := a; cases h; rfl
theorem Oper.wpIn_of_wp {F : Fence} (hF : Wide F) {n : Nat} {P : Program} {o : Oper} {a a2 : Act} (he : a2.eval = a.eval) {w : World} {K K' : Act → World → Prop} {Q : Exit → Act → World → Prop} (hd : ∀ c, o.op ≠ .defer c)
  (h : o.wp P a w K (fun _ _ _ => False)) (hK : ∀ v w', K (a.put o.dst v) w' → K' (a2.put o.dst v) w') (hKd : ∀ d w', ¬ K (({ a with defers := d :: a.defers } : Act).put o.dst undef) w') : o.wpIn F n P a2 w K' Q := by
 unfold Oper.wp at h
 unfold Oper.wpIn
 rw [he]
 refine ⟨fun f _ => hF.fn f, ?_⟩
 rw [Oper.semAt_eq _ _ _ hd]
 generalize (execOp a.eval o).run P w = r at h ⊢
 have hdp : F.depth.isSome = true → 1 ≤ n := fun h => by rw [hF.depth] at h; cases h
 cases r with
 | ok x w' =>
  cases x with
  | value v => exact hK _ _ h
  | skip => exact hK _ _ h
  | defer d => exact (hKd _ _ h).elim
  | enter f args =>
   refine ⟨hdp, (hF.calls h).mono ?_⟩
   rintro e w'' he
   cases e with
   | returned v => exact hK _ _ he
   | panicked c => exact he.elim
   | outgrown => obtain ⟨_, _, hx⟩ := he; exact hx.elim
  | row r args => exact ⟨hdp, (hF.rows h).mono fun v w'' he => hK _ _ he⟩
  | _ => exact h.elim
 | halt x w' => cases x <;> exact h.elim
theorem Ok.wpOpIn {F : Fence} (hF : Wide F) {n : Nat} {P : Program} {G : List (Nat × Array Value)} {ops : Array Oper} {o : Oper} {d : St} {σ : AS} (h : Ok P G ops o d σ) {i : Nat} (hi : ops[i]? = some o) (hdf : ∀ c, o.op ≠ .defer c)
  {A : Amb} {ρ : Env} {a : Act} {w : World} (hG : A.G = G) (hs : Sat A ρ σ (bare a) w) {K : Act → World → Prop} {Q : Exit → Act → World → Prop}
  (hK : ∀ a' w' ρ', Sat A ρ' (σ.eff o.dst d.e) (bare a') w' → a'.defers = a.defers → (∀ t, o.dst ≠ some t → a'.tmps[t]? = a.tmps[t]?) → K a' w') : Go.wpOpIn F n P ops Q i K a w := by
 obtain ⟨h1, h2, h3⟩ := h
 have hw : Region.wanted o (yielded ops a.tmps) = d.w := wanted_gd (a := bare a) h1 hs
 unfold Go.wpOpIn
 simp only [hi]
 cases hd : d.w with
 | true =>
  rw [hw, hd, if_pos rfl]
  obtain ⟨k1, k2, k3, k4, k5⟩ := h2 hd
  refine Oper.wpIn_of_wp hF (a := bare a) (a2 := a) rfl hdf (k1.run A ρ σ (bare a) w (fun a' w' => ∃ ρ', Sat A ρ' (σ.eff o.dst d.e) a' w') _ hG k2 k3 k4 k5 hs (fun a' w' ρ' h => ⟨ρ', h⟩)) (fun v w' ⟨ρ', h⟩ => hK (a.put o.dst v) _ ρ' (by rw [bare_put]; exact h) (put_defers _ _ _) fun t ht => put_frame ht) ?_
  rintro dd w' ⟨ρ', h⟩
  have := h.defers
  cases hdst : o.dst <;> rw [hdst] at this <;> cases this
 | false =>
  rw [hw, hd, if_neg (by decide)]
  refine ⟨fun f _ => hF.fn f, hK (a.put o.dst undef) _ ρ ?_ (put_defers _ _ _) fun t ht => put_frame ht⟩
  rw [bare_put]
  rcases h3 hd with he | ⟨he, hlt⟩
  · rw [he]; exact put_undef hs _
  rw [he]; exact put_undef2 hs _ hlt
def isDf (o : Oper) : Bool := match o.op with
 | .defer _ => true
 | _ => false
theorem isDf_no {o : Oper} (h : isDf o = false) : ∀ c, o.op ≠ .defer c := fun c e => by
 unfold isDf at h; rw [e] at h; cases h
def noDf (l : List Oper) : Bool := l.all fun o => !isDf o
theorem noDf_at {l : List Oper} (h : noDf l = true) {o : Oper} (ho : o ∈ l) : ∀ c, o.op ≠ .defer c :=
 isDf_no (by have := List.all_eq_true.1 h o ho; simpa using this)
def Frm (l : List Oper) (a a' : Act) : Prop := a'.defers = a.defers ∧ ∀ t, (∀ o ∈ l, o.dst ≠ some t) → a'.tmps[t]? = a.tmps[t]?
section
variable {F : Fence} {n : Nat} {P : Program} {G : List (Nat × Array Value)}
theorem wpOpsIn_chain (hF : Wide F) {l0 : List Oper} (hdf : noDf l0 = true) {K : AS → Prop} {Q : Exit → Act → World → Prop} {A : Amb} (hG : A.G = G) {a0 : Act} (hQ : ∀ ρ σ a w, K σ → Sat A ρ σ (bare a) w → Frm l0 a0 a → Q .normal a w) :
  ∀ (l : List Oper) (ds : List St) (k : Nat) (σ : AS) (ρ : Env) (a : Act) (w : World), (∀ j, l[j]? = l0.toArray[k + j]?) → Chain P G l0.toArray K l ds σ → Sat A ρ σ (bare a) w → Frm l0 a0 a → wpOpsIn F n P l0.toArray Q ((List.range l.length).map (k + ·)) a w
 | [], [], k, σ, ρ, a, w, _, hc, hs, hf => hQ ρ σ a w hc hs hf
 | o :: l, d :: ds, k, σ, ρ, a, w, hl, hc, hs, hf => by
  have h0 : l0.toArray[k]? = some o := by simpa using (hl 0).symm
  have hm : o ∈ l0 := List.mem_of_getElem? (i := k) (by simpa using h0)
  rw [List.length_cons, List.range_succ_eq_map, List.map_cons, List.map_map, wpOpsIn_cons]
  refine hc.1.wpOpIn hF (by simpa using h0) (noDf_at hdf hm) hG hs fun a' w' ρ' hs' hdd hfr => ?_
  have := wpOpsIn_chain hF hdf hG hQ l ds (k + 1) _ ρ' a' w' (fun j => by have := hl (j + 1); simpa [Nat.add_assoc, Nat.add_comm 1 j] using this) hc.2 hs' ⟨hdd.trans hf.1, fun t ht => (hfr t (ht o hm)).trans (hf.2 t ht)⟩
  have he : (fun x => k + x) ∘ Nat.succ = fun x => k + 1 + x := by funext x; simp; omega
  rw [he]
  exact this
 | [], _ :: _, _, _, _, _, _, _, hc, _, _ => hc.elim
 | _ :: _, [], _, _, _, _, _, _, hc, _, _ => hc.elim
theorem wpIn_rg (hF : Wide F) {l : List Oper} (hdf : noDf l = true) {K : AS → Prop} {Q : Exit → Act → World → Prop} {A : Amb} (hG : A.G = G) {id : Nat} {σ : AS} {ρ : Env} {a : Act} {w : World} (hc : Ch P G l false K [] l σ) (hs : Sat A ρ σ (bare a) w)
  (hQ : ∀ ρ σ a' w', K σ → Sat A ρ σ (bare a') w' → Frm l a a' → Q .normal a' w') : (Code.region id l.toArray false).wpIn F n P Q a w := by
 obtain ⟨ds, h1, -⟩ := hc.e
 refine wpIn_region ?_
 have := wpOpsIn_chain (n := n) hF hdf hG hQ l ds 0 σ ρ a w (fun j => by simp) h1 hs ⟨rfl, fun _ _ => rfl⟩
 have he : (fun x => 0 + x) = (fun x : Nat => x) := by funext x; omega
 rw [he, List.map_id'] at this
 simpa using this
theorem left_set' {listed : Array Bool} {n i : Nat} (hn : n ≤ listed.size) (hi : i ∈ left listed n) : ∃ pre post, left listed n = pre ++ i :: post ∧ left (listed.setIfInBounds i true) n = pre ++ post ∧ ∀ j ∈ pre, j < i := by
 have hin : i < n := by simpa using (List.mem_filter.1 hi).1
 obtain ⟨pre, post, he⟩ := List.append_of_mem hi
 have hsorted : (left listed n).Pairwise (· < ·) := (List.pairwise_lt_range (n := n)).filter _
 rw [he] at hsorted
 have h1 := List.pairwise_append.1 hsorted
 have hpre : ∀ j ∈ pre, j < i := fun j hj => h1.2.2 j hj i (by simp)
 have hpost : ∀ j ∈ post, i < j := fun j hj => (List.pairwise_cons.1 h1.2.1).1 j hj
 refine ⟨pre, post, he, ?_, hpre⟩
 have hf : left (listed.setIfInBounds i true) n = (left listed n).filter (fun j => j != i) := by
  unfold left
  rw [List.filter_filter]
  refine List.filter_congr fun j hj => ?_
  have hjn : j < n := by simpa using hj
  by_cases hji : j = i
  ·
   subst hji
   have : j < listed.size := by omega
   simp [Array.getD_eq_getD_getElem?, this]
  rw [getD_set_ne false (Ne.symm hji)]
  simp [hji]
 rw [hf, he, List.filter_append, List.filter_cons]
 simp only [bne_self_eq_false, Bool.false_eq_true, if_false]
 rw [List.filter_eq_self.2 (fun j hj => by have := hpre j hj; simp; omega), List.filter_eq_self.2 (fun j hj => by have := hpost j hj; simp; omega)]
theorem anc_listed {l : List Oper} {listed : Array Bool} (hn : listed.size = l.length) (hcl : ∀ (j : Nat) (o : Oper), listed.getD j false = true → l[j]? = some o → ∀ e ∈ o.after, Region.binds .any e = true → listed.getD e.on false = true) :
  ∀ j k, Anc l.toArray j k → ∀ ok, l[k]? = some ok → (∀ e ∈ ok.after, Region.binds .any e = true → listed.getD e.on false = true) → listed.getD j false = true := by
 intro j k ha
 induction ha with
 | one h he hb hi' =>
  intro ok hok hall
  rw [List.getElem?_toArray, hok] at h
  cases h
  rw [← hi']
  exact hall _ he hb
 | more h he hb hi' ha ih' =>
  intro ok hok hall
  rw [List.getElem?_toArray, hok] at h
  cases h
  have hk := hall _ he hb
  rw [hi'] at hk
  refine (fun (k' : Nat) (hk : listed.getD k' false = true) (ih' : ∀ ok, l[k']? = some ok → (∀ e ∈ ok.after, Region.binds .any e = true → listed.getD e.on false = true) → listed.getD j false = true) => ?_) _ hk ih'
  cases hk2 : l[k']? with
  | none =>
   have : ¬ k' < l.length := by simpa using hk2
   rw [Array.getD_eq_getD_getElem?, Array.getElem?_eq_none (by omega)] at hk
   cases hk
  | some ok2 => exact ih' ok2 hk2 (fun e2 he2 hb2 => hcl k' ok2 hk hk2 e2 he2 hb2)
theorem getD_false_of {listed : Array Bool} {i : Nat} (h : i < listed.size) {b : Bool} (hb : (!listed.getD i b) = true) : listed.getD i false = false := by
 simp only [Array.getD_eq_getD_getElem?, Array.getElem?_eq_getElem h, Option.getD_some] at hb ⊢
 simpa using hb
theorem chainI_of' {L : List Oper} {K : AS → Prop} {D : Nat → St} : ∀ (r : List Oper) (ds : List St) (k : Nat) (σ : AS), (∀ j, j < r.length → r[j]? = L[k + j]?) → (∀ j d, ds[j]? = some d → D (k + j) = d) →
  Chain P G L.toArray K r ds σ → ChainI P G L.toArray D K ((List.range r.length).map (k + ·)) σ
 | [], [], k, σ, _, _, h => h
 | o :: r, d :: ds, k, σ, hl, hd, h => by
  have h0 : L[k]? = some o := by simpa using (hl 0 (by simp)).symm
  have hD : D k = d := by simpa using hd 0 d rfl
  rw [List.length_cons, List.range_succ_eq_map, List.map_cons, List.map_map]
  refine ⟨o, by simpa using h0, by simpa [hD] using h.1, ?_⟩
  have := chainI_of' r ds (k + 1) _ (fun j hj => by have := hl (j + 1) (by simp; omega); simpa [Nat.add_assoc, Nat.add_comm 1 j] using this) (fun j d hj => by have := hd (j + 1) d (by simpa using hj); rw [← this]; congr 1; omega) h.2
  have he : (fun x => k + x) ∘ Nat.succ = fun x => k + 1 + x := by funext x; simp; omega
  rw [he]
  simpa [hD] using this
 | [], _ :: _, _, _, _, _, h => h.elim
 | _ :: _, [], _, _, _, _, h => h.elim
theorem any_of_leftT (hF : Wide F) {l : List Oper} (hdf : noDf l = true) {D : Nat → St} {K : AS → Prop} {Q : Exit → Act → World → Prop} {A : Amb} (hG : A.G = G) (m : Nat) (hm : m ≤ l.length) {a0 : Act}
  (hH : ∀ listed ρ σ a w, listed.size = l.length → (∀ j, j < m → listed.getD j false = true) → (∀ j, m ≤ j → listed.getD j false = false) → K σ → Sat A ρ σ (bare a) w → Frm l a0 a → wpAnyIn F n P .any l.toArray Q (l.length - m) listed a w)
  (hed : ∀ (i : Nat) (o : Oper), l[i]? = some o → ∀ e ∈ o.after, Region.binds .any e = true → e.on < i)
  (hchk : ∀ (j i : Nat) (oj oi : Oper), j < i → i < m → l[j]? = some oj → l[i]? = some oi → Anc l.toArray j i ∨ Apart l.toArray oj (D j) oi (D i))
  (htl : ∀ i j, m ≤ i → i < l.length → j < m → Anc l.toArray j i) :
  ∀ (fuel : Nat) (listed : Array Bool) (σ : AS) (ρ : Env) (a : Act) (w : World), listed.size = l.length →
   (∀ (j : Nat) (o : Oper), listed.getD j false = true → l[j]? = some o → ∀ e ∈ o.after, Region.binds .any e = true → listed.getD e.on false = true) → (∀ j, m ≤ j → listed.getD j false = false) →
   ChainI P G l.toArray D K (left listed m) σ → fuel = (left listed m).length + (l.length - m) → Sat A ρ σ (bare a) w → Frm l a0 a → wpAnyIn F n P .any l.toArray Q fuel listed a w := by
 intro fuel
 induction fuel with
 | zero =>
  intro listed σ ρ a w hn hcl hto hch hf hs hfr
  have hnil : left listed m = [] := List.eq_nil_of_length_eq_zero (by omega)
  rw [hnil] at hch
  have := hH listed ρ σ a w hn (fun j hj => by
   cases hc : listed.getD j false with
   | true => rfl
   | false =>
    have : j ∈ left listed m := List.mem_filter.2 ⟨by simpa using hj, by simp [hc]⟩
    rw [hnil] at this
    cases this) hto hch hs hfr
  rw [show l.length - m = 0 by omega] at this
  exact this
 | succ fuel ih =>
  intro listed σ ρ a w hn hcl hto hch hf hs hfr
  cases hleft : left listed m with
  | nil =>
   rw [hleft] at hch hf
   have := hH listed ρ σ a w hn (fun j hj => by
    cases hc : listed.getD j false with
    | true => rfl
    | false =>
     have : j ∈ left listed m := List.mem_filter.2 ⟨by simpa using hj, by simp [hc]⟩
     rw [hleft] at this
     cases this) hto hch hs hfr
   rw [hf]
   simpa using this
  | cons i0 rest =>
   have hi0 : i0 ∈ left listed m := by rw [hleft]; simp
   have hi0' := List.mem_filter.1 hi0
   have hi0m : i0 < m := by simpa using hi0'.1
   have hi0f : listed.getD i0 false = false := by simpa using hi0'.2
   have hready : ∀ i, i ∈ Region.ready .any l.toArray listed → i ∈ left listed m ∧ ∃ o, l[i]? = some o ∧ ∀ e ∈ o.after, Region.binds .any e = true → listed.getD e.on false = true := by
    intro i hi
    obtain ⟨h1, h2⟩ := List.mem_filter.1 hi
    simp only [Bool.and_eq_true] at h2
    have hil : i < l.length := by simpa using h1
    have hlt : i < listed.size := by rw [hn]; exact hil
    have hall : ∀ e ∈ l[i].after, Region.binds .any e = true → listed.getD e.on false = true := by
     have h3 := h2.2
     simp only [List.getElem?_toArray, List.getElem?_eq_getElem hil, Option.map_some, Option.getD_some, Array.all_eq_true'] at h3
     intro e he hb
     have := h3 e he
     simpa [hb] using this
    have hfi : listed.getD i false = false := getD_false_of hlt h2.1
    by_cases him : i < m
    · exact ⟨List.mem_filter.2 ⟨by simpa using him, by simp [hfi]⟩, l[i], by simp [hil], hall⟩
    have := anc_listed hn hcl i0 i (htl i i0 (by omega) hil hi0m) l[i] (by simp [hil]) hall
    rw [hi0f] at this
    cases this
   refine ⟨fun hr => ?_, fun i hi => ?_⟩
   ·
    exfalso
    rw [hleft] at hch
    obtain ⟨o, ho, -⟩ := hch
    have hlt : i0 < l.length := by omega
    by_cases hall : ∀ e ∈ o.after, Region.binds .any e = true → listed.getD e.on false = true
    ·
     have : i0 ∈ Region.ready .any l.toArray listed := by
      refine List.mem_filter.2 ⟨by simpa using hlt, ?_⟩
      have hlt' : i0 < listed.size := by rw [hn]; exact hlt
      have h3 := hi0f
      simp only [Array.getD_eq_getD_getElem?, Array.getElem?_eq_getElem hlt', Option.getD_some] at h3
      simp only [Bool.and_eq_true, Array.getD_eq_getD_getElem?, Array.getElem?_eq_getElem hlt', Option.getD_some]
      refine ⟨by simp [h3], ?_⟩
      simp only [ho, Option.map_some, Option.getD_some, Array.all_eq_true']
      intro e he
      cases hb : Region.binds .any e with
      | false => rfl
      | true =>
       have := hall e he hb
       simp only [Array.getD_eq_getD_getElem?] at this
       simpa using this
     rw [hr] at this
     cases this
    refine hall fun e he hb => ?_
    have hlt2 := hed i0 o (by simpa using ho) e he hb
    cases hc : listed.getD e.on false with
    | true => rfl
    | false =>
     have hme : e.on ∈ left listed m := List.mem_filter.2 ⟨by simp; omega, by simp [hc]⟩
     have hsorted : (left listed m).Pairwise (· < ·) := (List.pairwise_lt_range (n := m)).filter _
     rw [hleft] at hme hsorted
     rcases List.mem_cons.1 hme with h | h
     · omega
     have := (List.pairwise_cons.1 hsorted).1 _ h
     omega
   obtain ⟨hil, o, ho, hpre⟩ := hready i hi
   have him : i < m := by simpa using (List.mem_filter.1 hil).1
   obtain ⟨pre, post, h1, h2, h3⟩ := left_set' (by omega) hil
   have hoi : l.toArray[i]? = some o := by simpa using ho
   have hmo : o ∈ l := List.mem_of_getElem? ho
   rw [h1] at hch
   obtain ⟨k1, k2⟩ := ChainI.front hoi (fun j hj oj hoj => by
    have hj' : j ∈ left listed m := by rw [h1]; simp [hj]
    rcases hchk j i oj o (h3 j hj) him (by simpa using hoj) ho with ha | ha
    ·
     have := anc_listed hn hcl j i ha o ho hpre
     have hjf := (List.mem_filter.1 hj').2
     rw [this] at hjf
     cases hjf
    exact ha) hch
   refine k1.wpOpIn hF hoi (noDf_at hdf hmo) hG hs fun a' w' ρ' hs' hdd hfr' => ?_
   refine ih (listed.setIfInBounds i true) _ ρ' a' w' (by simpa using hn) ?_ (fun j hj => by rw [getD_set_ne false (by omega)]; exact hto j hj) (by rw [h2]; exact k2) ?_ hs' ⟨hdd.trans hfr.1, fun t ht => (hfr' t (ht o hmo)).trans (hfr.2 t ht)⟩
   ·
    intro j oj hj hoj e he hb
    by_cases hji : j = i
    ·
     subst hji
     rw [ho] at hoj
     cases hoj
     exact getD_set_true (hpre e he hb)
    rw [getD_set_ne false (Ne.symm hji)] at hj
    exact getD_set_true (hcl j oj hj hoj e he hb)
   rw [h2]
   rw [h1] at hf
   simp only [List.length_append, List.length_cons] at hf ⊢
   omega
theorem wpAnyIn_seq {md : Region.Mode} {ops : Array Oper} {Q : Exit → Act → World → Prop} : ∀ (l : List Oper) (k : Nat) (listed : Array Bool) (a : Act) (w : World), (∀ j, l[j]? = ops[k + j]?) →
  Region.seqB md ops l.length k listed = true → wpListIn F n P ops Q l a w → wpAnyIn F n P md ops Q l.length listed a w
 | [], _, _, _, _, _, hB, h => ⟨by simpa [Region.seqB] using hB, h⟩
 | o :: l, k, listed, a, w, hl, hB, h => by
  have h0 : ops[k]? = some o := by simpa using (hl 0).symm
  simp only [List.length_cons, Region.seqB, Bool.and_eq_true, decide_eq_true_eq] at hB
  refine ⟨fun h1 => (by rw [hB.1] at h1; cases h1), fun i hi => ?_⟩
  rw [hB.1] at hi
  have hik : i = k := by simpa using hi
  subst hik
  have hw : wpOpIn F n P ops Q i (wpListIn F n P ops Q l) a w := by unfold wpOpIn; simp only [h0]; exact h
  exact wpOpIn_mono (fun a' w' h' => wpAnyIn_seq l (i + 1) _ a' w' (fun j => by have := hl (j + 1); simpa [Nat.add_assoc, Nat.add_comm 1 j] using this) hB.2 h') hw
def anAll (m : Nat) (an : Nat) : Bool := (List.range m).all fun j => an.testBit j
def tailOk (l : List Oper) (m : Nat) : Bool := decide (m ≤ l.length) && ((List.range l.length).all fun i => decide (i < m) || anAll m ((ancs l).getD i 0)) && Region.seqB .any l.toArray (l.length - m) m ((List.range l.length).map fun j => decide (j < m)).toArray
theorem wpIn_rgT (hF : Wide F) {l : List Oper} (m : Nat) (hm : P.follows .mixedOrders = true) (hdf : noDf l = true) (htl : tailOk l m = true) {K : AS → Prop} {Q : Exit → Act → World → Prop} {A : Amb} (hG : A.G = G) {id : Nat} {σ : AS} {ρ : Env} {a : Act} {w : World}
  (hc : Ch P G l true K [] (l.take m) σ) (hs : Sat A ρ σ (bare a) w)
  (hQ : ∀ ρ σ a' w', K σ → Sat A ρ σ (bare a') w' → Frm l a a' → wpListIn F n P l.toArray Q (l.drop m) a' w') : (Code.region id l.toArray true).wpIn F n P Q a w := by
 obtain ⟨ds, hch, hck⟩ := hc.e
 have hchk := hck rfl
 simp only [List.reverse_nil, List.nil_append, Bool.and_eq_true] at hchk
 simp only [tailOk, Bool.and_eq_true, decide_eq_true_eq, List.all_eq_true, Bool.or_eq_true] at htl
 obtain ⟨⟨hml, htl⟩, hseq⟩ := htl
 refine wpIn_region_any hm ?_
 have hs' : Sat A ρ σ (bare a) { w with drawn := w.drawn + 1 } := by
  obtain ⟨h1, h2⟩ := hs.mem.same (w' := { w with drawn := w.drawn + 1 }) rfl rfl rfl rfl
  exact ⟨h1, fun t v ht => by obtain ⟨x, hx, hv⟩ := hs.slots t v ht; exact ⟨x, hx, h2 _ _ hv⟩, hs.nt, hs.defers⟩
 have hlen := chain_len hch
 have htk : (l.take m).length = m := by simp; omega
 have hleft : left (Array.replicate l.length false) m = List.range m := by
  unfold left
  rw [List.filter_eq_self]
  intro j hj
  have : j < m := by simpa using hj
  have : j < l.length := by omega
  simp [Array.getD_eq_getD_getElem?, this]
 have hchI : ChainI P G l.toArray (fun j => ds.getD j ⟨true, [], [], ⟨none, [], []⟩⟩) K (List.range m) σ := by
  have := chainI_of' (P := P) (G := G) (K := K) (L := l) (D := fun j => ds.getD j ⟨true, [], [], ⟨none, [], []⟩⟩) (l.take m) ds 0 σ (fun j hj => by rw [List.getElem?_take_of_lt (by omega)]; simp) (fun j d hj => by simp [List.getD_eq_getElem?_getD, hj]) hch
  have he : (fun x => 0 + x) = (fun x : Nat => x) := by funext x; omega
  rw [he, List.map_id', htk] at this
  exact this
 have hsz : l.toArray.size = l.length := by simp
 rw [hsz]
 refine any_of_leftT (D := fun j => ds.getD j ⟨true, [], [], ⟨none, [], []⟩⟩) hF hdf hG m hml (a0 := a) ?_ (fun i o ho e he hb => by simpa using edgesOk_spec hchk.1 i o ho e he hb) ?_ ?_ l.length (Array.replicate l.length false) σ ρ a _ (by simp) ?_ ?_ (by rw [hleft]; exact hchI)
  (by rw [hleft, List.length_range]; omega) hs' ⟨rfl, fun _ _ => rfl⟩
 ·
  intro listed ρ' σ' a' w' h1 h2 h3 hk hs2 hfr
  have hl : listed = ((List.range l.length).map fun j => decide (j < m)).toArray := by
   refine Array.ext (by simp [h1]) fun i hi hi' => ?_
   have e1 : listed[i] = listed.getD i false := by simp [Array.getD_eq_getD_getElem?, hi]
   rw [e1]
   by_cases him : i < m
   · rw [h2 i him]; simp [him]
   rw [h3 i (by omega)]; simp [him]
  have := wpAnyIn_seq (F := F) (n := n) (P := P) (md := .any) (Q := Q) (l.drop m) m listed a' w' (fun j => by simp [List.getElem?_drop]) (by rw [List.length_drop, hl]; exact hseq) (hQ ρ' σ' a' w' hk hs2 hfr)
  rwa [List.length_drop] at this
 ·
  intro j i oj oi hji him hj hi
  have hdj : ds[j]? = some (ds.getD j ⟨true, [], [], ⟨none, [], []⟩⟩) := by
   have : j < ds.length := by omega
   simp [List.getD_eq_getElem?_getD, List.getElem?_eq_getElem this]
  have hdi : ds[i]? = some (ds.getD i ⟨true, [], [], ⟨none, [], []⟩⟩) := by
   have : i < ds.length := by omega
   simp [List.getD_eq_getElem?_getD, List.getElem?_eq_getElem this]
  rcases chkGo_spec hchk.2 (ancs_len l) i oi _ hi hdi j oj _ (by omega) hj hdj with h | h
  · exact .inl (ancs_spec h)
  exact .inr (apart_of_conf h)
 ·
  intro i j hi hil hj
  rcases htl i (by simpa using hil) with h | h
  ·
   have : i < m := by simpa using h
   omega
  exact ancs_spec (List.all_eq_true.1 h j (by simpa using hj))
 ·
  intro j o hj
  by_cases hjl : j < l.length
  · simp [Array.getD_eq_getD_getElem?, hjl] at hj
  simp [Array.getD_eq_getD_getElem?, hjl] at hj
 intro j _
 by_cases hjl : j < l.length <;> simp [Array.getD_eq_getD_getElem?, hjl]
end
end Go.Proofs.YtpnbpcopdckgpaaGreatDoor.E
namespace Go.Proofs.YtpnbpcopdckgpaaGreatDoor.E
open Go Go.RowKit V
def Amb.now (A : Amb) (h : Nat → Option AO) (ρ : Env) (w : World) : Amb :=
 ⟨w, Nh A h ρ w, fun b o => ∃ i ob, h i = some ob ∧ ob.wr ρ i b o, fun b => ∃ i ob, h i = some ob ∧ ob.at_ ρ i b, A.nA, A.G, A.ρ⟩
section
variable {A : Amb} {ρ ρ' : Env} {h h' : Nat → Option AO} {u u' : Nat → Bool} {w w' : World}
theorem Nh.now {b o : Nat} (H : Nh A h ρ w b o) : Nh (A.now h ρ w) h ρ w b o := ⟨H.1, .inl H, H.2.2⟩
theorem HSat.now (H : HSat A ρ h u w) : HSat (A.now h ρ w) ρ h u w := by
 refine ⟨rfl, rfl, rfl, Nat.le_refl _, fun _ _ _ => rfl, fun _ _ _ => rfl, fun b o hn => hn.1, ?_, ?_, ?_, H.domB, H.domT, H.fix, H.usedB, H.usedT, ?_, fun i ob b o hi hw => .inl ⟨i, ob, hi, hw⟩, fun i ob b hi hw => .inl ⟨i, ob, hi, hw⟩, H.sep⟩
 ·
  rintro b o hn ⟨i, ob, hi, hw⟩
  exact hn.2.2 i ob hi hw
 ·
  rintro b o ⟨i, ob, hi, hw⟩
  exact ⟨i, ob, hi, AO.at_of_wr hw⟩
 ·
  intro x hx
  obtain ⟨⟨T, h1⟩, h2⟩ := H.tabs x hx
  have hlt := (Array.getElem?_eq_some_iff.1 h1).1
  refine ⟨⟨T, (H.block _ hlt h2).trans h1⟩, ?_⟩
  rintro ⟨i, ob, hi, hw⟩
  rcases H.ownB i ob _ hi hw with hb | hb
  · exact h2 hb
  omega
 intro i ob hi
 exact (H.heap i ob hi).keep (Env.le_refl _) (fun av x hx => hx.mono (fun b o hn => hn.now) (Env.le_refl _) (fun _ _ _ => rfl)) (fun _ _ => rfl)
theorem Nh.back (H : HSat A ρ h u w) {b o : Nat} (hn : Nh (A.now h ρ w) h' ρ' w' b o) : Nh A h' ρ' w' b o := by
 refine ⟨hn.1, ?_, hn.2.2⟩
 rcases hn.2.1 with hx | ⟨i, ob, hi, hw⟩ | hx
 · exact hx.2.1
 · exact .inr (H.own i ob b o hi hw)
 exact .inr (.inr (Nat.le_trans H.size hx))
theorem HSat.back (H : HSat A ρ h u w) (H' : HSat (A.now h ρ w) ρ' h' u' w') : HSat A ρ' h' u' w' := by
 refine ⟨H'.os.trans H.os, H'.tape.trans H.tape, H'.output.trans H.output, Nat.le_trans H.size H'.size, ?_, ?_, H.nlt, H.nw, H.wb, H.tabs, H.domB, H.domT, H'.fix, H'.usedB, H'.usedT, ?_, ?_, ?_, H'.sep⟩
 ·
  intro b hb hB
  refine (H'.block b (Nat.lt_of_lt_of_le hb H.size) ?_).trans (H.block b hb hB)
  rintro ⟨i, ob, hi, hw⟩
  exact (H.ownB i ob b hi hw).elim hB (fun hle => by omega)
 ·
  intro b o hn
  refine (H'.keep b o ⟨Nat.lt_of_lt_of_le (H.nlt b o hn) H.size, .inl hn, fun i ob hi hw => ?_⟩).trans (H.keep b o hn)
  exact (H.own i ob b o hi hw).elim (H.nw b o hn) (fun hle => by have := H.nlt b o hn; omega)
 ·
  intro i ob hi
  exact (H'.heap i ob hi).keep (Env.le_refl _) (fun av x hx => hx.mono (fun b o hn => hn.back H) (Env.le_refl _) (fun _ _ _ => rfl)) (fun _ _ => rfl)
 ·
  intro i ob b o hi hw
  rcases H'.own i ob b o hi hw with ⟨j, oj, hj, hwj⟩ | hle
  · exact H.own j oj b o hj hwj
  exact .inr (Nat.le_trans H.size hle)
 intro i ob b hi hw
 rcases H'.ownB i ob b hi hw with ⟨j, oj, hj, hwj⟩ | hle
 · exact H.ownB j oj b hj hwj
 exact .inr (Nat.le_trans H.size hle)
theorem Nh.on (H' : HSat (A.now h ρ w) ρ' h' u' w') {b o : Nat} (hn : Nh A h ρ w b o) : Nh A h' ρ' w' b o := by
 refine ⟨Nat.lt_of_lt_of_le hn.1 H'.size, hn.2.1, fun i ob hi hw => ?_⟩
 rcases H'.own i ob b o hi hw with ⟨j, oj, hj, hwj⟩ | hle
 · exact hn.2.2 j oj hj hwj
 have h1 : w.heap.size ≤ b := hle
 have h2 := hn.1
 omega
theorem VRel.mono2 {N N' : Nat → Nat → Prop} (hN : ∀ b o x, N b o → w.cell? ⟨b, o, none⟩ = some x → N' b o) (hρ : ρ.le ρ') (hw : ∀ b o x, N b o → w.cell? ⟨b, o, none⟩ = some x → w'.cell? ⟨b, o, none⟩ = some x)
  {av : AV} {x : Value} (h : VRel N ρ w av x) : VRel N' ρ' w' av x := by
 induction h with
 | v x => exact .v x
 | agg cs vs hs _ ih => exact .agg cs vs hs ih
 | tup cs vs hs _ ih => exact .tup cs vs hs ih
 | sl o n cs a cap vals hc _ ho hn hz hm ih =>
  exact .sl o n cs a cap vals (fun i hi => by obtain ⟨h1, b, off, ha, hx, hnn⟩ := hc i hi; exact ⟨h1, b, off, ha, hw _ _ _ hnn hx, hN _ _ _ hnn hx⟩) ih (fun k hk => hρ.2 _ _ (ho k hk)) hn hz hm
 | arr id off n cap b hb hn hm => exact .arr id off n cap b (hρ.1 _ _ hb) hn hm
 | ptr id off b hb => exact .ptr id off b (hρ.1 _ _ hb)
 | sptr cs b off vals hc _ ih => exact .sptr cs b off vals (fun i hi => ⟨hw _ _ _ (hc i hi).2 (hc i hi).1, hN _ _ _ (hc i hi).2 (hc i hi).1⟩) ih
 | fn f fs cs vs us hs _ hs' _ ih ih' => exact .fn f fs cs vs us hs ih hs' ih'
 | mp id b hb => exact .mp id b (hρ.1 _ _ hb)
def AO.noMp : AO → Bool
 | .map _ => false
 | _ => true
theorem ORel.cells {N : Nat → Nat → Prop} {i b : Nat} {ob : AO} (hq : ob.noMp = true) (H : ORel N ρ w i ob) (hb : ob.at_ ρ i b) : ∃ o : Obj, w.heap[b]? = some o ∧ o.isCells = true := by
 cases ob with
 | cells T cs =>
  obtain ⟨b', arr, h1, ⟨fz, hmk, h2⟩, -⟩ := H
  have hb' : ρ.blk i = some b := hb
  rw [h1] at hb'
  cases hb'
  exact ⟨_, h2, rfl⟩
 | tip E sz n =>
  obtain ⟨cap, hb⟩ := hb
  rcases H with ⟨h1, -⟩ | ⟨g, cap', cur, h1, h2, -⟩
  · rw [h1] at hb; cases hb
  rw [h1] at hb
  cases hb
  exact ⟨_, h2, rfl⟩
 | map => cases hq
theorem HSat.grown (H : HSat A ρ h u w) (hnm : ∀ i ob, h i = some ob → ob.noMp = true) {row : Option Nat} (hg : w.grownBy w' row) (hr : ∀ r, row = some r → A.w.heap.size ≤ r ∧ ∃ o : Obj, w.heap[r]? = some o ∧ o.isCells = false) :
  HSat A ρ h u w' ∧ (∀ av x, VRel (Nh A h ρ w) ρ w av x → VRel (Nh A h ρ w') ρ w' av x) ∧ ∀ b o, Nh A h ρ w b o → Nh A h ρ w' b o := by
 have hr' : ∀ r, row = some r → ∃ o : Obj, w.heap[r]? = some o ∧ o.isCells = false := fun r e => (hr r e).2
 have hN : ∀ b o, Nh A h ρ w b o → Nh A h ρ w' b o := fun b o hn => ⟨Nat.lt_of_lt_of_le hn.1 hg.size, hn.2⟩
 have hV : ∀ av x, VRel (Nh A h ρ w) ρ w av x → VRel (Nh A h ρ w') ρ w' av x := fun av x hx => hx.mono2 (fun b o _ hn _ => hN b o hn) (Env.le_refl _) (fun b o y _ hy => cell_kept hy hg hr')
 have hold : ∀ b, b < A.w.heap.size → w'.heap[b]? = w.heap[b]? := fun b hb => hg.block b (Nat.lt_of_lt_of_le hb H.size) (fun e => by have := (hr b e.symm).1; omega)
 refine ⟨⟨hg.os.trans H.os, hg.tape.trans H.tape, hg.output.trans H.output, Nat.le_trans H.size hg.size, fun b hb hB => (hold b hb).trans (H.block b hb hB), fun b o hn => (World.cell?_of_block (w := w) (hold b (H.nlt b o hn))).trans (H.keep b o hn),
  H.nlt, H.nw, H.wb, H.tabs, H.domB, H.domT, H.fix, H.usedB, H.usedT, fun i ob hi => (H.heap i ob hi).keep (Env.le_refl _) hV (fun b hb => ?_), H.own, H.ownB, H.sep⟩, hV, hN⟩
 obtain ⟨o, ho, hc⟩ := (H.heap i ob hi).cells (hnm i ob hi) hb
 exact grownBy_keeps_cells hg hr' ho hc
theorem Sat.grown {σ : AS} {a : Act} (H : Sat A ρ σ a w) (hnm : ∀ i ob, σ.h i = some ob → ob.noMp = true) {row : Option Nat} (hg : w.grownBy w' row) (hr : ∀ r, row = some r → A.w.heap.size ≤ r ∧ ∃ o : Obj, w.heap[r]? = some o ∧ o.isCells = false) : Sat A ρ σ a w' := by
 obtain ⟨h1, h2, -⟩ := H.mem.grown hnm hg hr
 exact ⟨h1, fun t v ht => by obtain ⟨x, hx, hv⟩ := H.slots t v ht; exact ⟨x, hx, h2 _ _ hv⟩, H.nt, H.defers⟩
end
def KpN (N : Nat → Nat → Prop) (G : List (Nat × Array Value)) (W W' : World) : Prop := (∀ b o, N b o → W'.cell? ⟨b, o, none⟩ = W.cell? ⟨b, o, none⟩) ∧ ∀ x ∈ G, W'.heap[x.1]? = W.heap[x.1]?
structure SeqC (P : Program) (G : List (Nat × Array Value)) (f : FuncId) (caps : List AV) {α : Type} (enc : α → Value) (L : List α) : Prop where
 enter : ∃ fn c, P.funcs[f]? = some fn ∧ (fn.name == "runtime.NumGoroutine") = false ∧ fn.body = some c
 stops : ∀ (n : Nat) (w : World) (N : Nat → Nat → Prop) (ρ : Env) (us : Array Value), (∀ b o, N b o → b < w.heap.size) → (∀ x ∈ G, ∃ T, w.heap[x.1]? = some (.cells x.2 T (0, 0))) → us.size = caps.length →
  (∀ (i : Nat) (c : AV) (x : Value), caps[i]? = some c → us[i]? = some x → VRel N ρ w c x) →
  SeqStopsK Fence.wide n P f us (fun x : α => #[enc x]) (KpN N G) (fun ys => ys = L) (fun pre => pre <+: L) L.length w
def slOff (S : List (Nat × AV)) (p v : Nat) (l : List Oper) : Bool := S.all fun x => !(Nat.beq x.1 p) && !(Nat.beq x.1 v) && l.all fun o => match o.dst with
 | some d => !(Nat.beq d x.1)
 | none => true
theorem slOff_spec {S : List (Nat × AV)} {p v : Nat} {l : List Oper} (h : slOff S p v l = true) {t : Nat} {x : AV} (ht : ls S t = some x) : t ≠ p ∧ t ≠ v ∧ ∀ o ∈ l, o.dst ≠ some t := by
 have := List.all_eq_true.1 h _ (ls_some ht)
 simp only [Bool.and_eq_true, Bool.not_eq_true', List.all_eq_true] at this
 obtain ⟨⟨h1, h2⟩, h3⟩ := this
 refine ⟨fun e => by rw [e] at h1; simp at h1, fun e => by rw [e] at h2; simp at h2, fun o ho e => ?_⟩
 have := h3 o ho
 rw [e] at this
 simp at this
theorem wp_rangeF {P : Program} {G : List (Nat × Array Value)} {A : Amb} {ρ : Env} {a : Act} {w : World} {g : Operand} {p v ia ib ir : Nat} {ty : TypeId} {pos : String} {aft : Array Edge} {l : List Oper} {f : FuncId} {caps : List AV} {α : Type} {enc : α → Value} {L : List α}
  {S : List (Nat × AV)} {m : Nat} {h0 : Nat → Option AO} {u0 : Nat → Bool} (hG : A.G = G) (hs : Sat A ρ ⟨m, ls S, h0, u0⟩ a w) (hg : (⟨m, ls S, h0, u0⟩ : AS).ev g = some (.fn (.func f) [] caps)) (hseq : SeqC P G f caps enc L)
  (H : List α → Nat → Option AO) (U : List α → Nat → Bool) (hH : H [] = h0) (hU : U [] = u0) (hnm : ∀ L' i ob, H L' i = some ob → ob.noMp = true) (hp : p < m) (hv : v < m) (hf : slOff S p v l = true) (hdf : noDf l = true)
  (hbody : ∀ (A' : Amb) (pre : List α) (x : α), A'.G = G → A'.nA = A.nA → pre.length < L.length → Ch P G l false (fun σ' => ∃ σ'', SEnt A' σ' σ'' ∧ σ''.n = m ∧ (∀ t y, ls S t = some y → σ''.s t = some y) ∧ σ''.h = H (pre ++ [x]) ∧ σ''.u = U (pre ++ [x])) [] l
   ⟨m, upd (upd (ls S) p (some (.v (enc x)))) v (some (.v (enc x))), H pre, U pre⟩)
  {Q : Exit → Act → World → Prop} (hQ : ∀ D ρ' W, W.heap[D]? = some (.deferred (some [])) → A.w.heap.size ≤ D → Sat A ρ' ⟨m, ls S, H L, U L⟩ a W → Q .normal { a with defers := { target := .collected D, args := #[] } :: a.defers } W) :
  (Code.rangeFunc g #[p] (.region ia #[⟨some v, .assign (.tmp p), ty, pos, aft, none⟩] false) (.block ib (.region ir l.toArray false))).wp P Q a w := by
 have hgv := hs.ev hg
 obtain ⟨us, hus, hcap, hev⟩ : ∃ us : Array Value, us.size = caps.length ∧ (∀ (i : Nat) (c : AV) (x : Value), caps[i]? = some c → us[i]? = some x → VRel (Nh A h0 ρ w) ρ w c x) ∧ a.eval g = .func (.func f) #[] us := by
  generalize a.eval g = y at hgv
  cases hgv with
  | fn f' fs cs vs us hs1 k1 hs2 k2 =>
   refine ⟨us, hs2, k2, ?_⟩
   obtain rfl := Array.eq_empty_of_size_eq_zero (by simpa using hs1)
   rfl
 have htab : ∀ x ∈ G, (∃ T, w.heap[x.1]? = some (.cells x.2 T (0, 0))) ∧ ∀ i ob, h0 i = some ob → ¬ ob.at_ ρ i x.1 := fun x hx => by
  have := hs.mem.now.tabs x (by show x ∈ A.G; rw [hG]; exact hx)
  exact ⟨this.1, fun i ob hi hb => this.2 ⟨i, ob, hi, hb⟩⟩
 obtain ⟨fn, c, e1, e2, e3⟩ := hseq.enter
 have hst := hseq.stops 2 w (Nh A h0 ρ w) ρ us (fun b o hn => hn.1) (fun x hx => (htab x hx).1) hus hcap
 refine (wpIn_wide (n := 3)).1 ?_
 refine wpIn_rangeFunc_ownF (F := Fence.wide) (n := 3) rfl (by omega) (gf := f) (lb := us) hev trivial (fun args W => run_enter e1 e2 e3 args W) hst ?_ ?_ (Below.refl _ _) (fun _ => rfl)
  (fun pre W => ∃ ρk, Sat A ρk ⟨m, ls S, H pre, U pre⟩ a W ∧ ∀ b o, Nh A h0 ρ w b o → Nh A (H pre) ρk W b o) (fun _ _ _ => False) ?_ (fun _ _ _ _ _ hx _ _ => hx) ⟨ρ, by rw [hH, hU]; exact hs, fun b o hn => by rw [hH]; exact hn⟩
  (fun x => { tmps := (a.tmps.setIfInBounds p (enc x)).setIfInBounds v (enc x), defers := [] }) ?assign ?body ?done (fun _ _ _ _ _ _ hx => hx.elim)
 ·
  intro A' B' C' h1 h2
  exact ⟨fun b o hn => (h2.1 b o hn).trans (h1.1 b o hn), fun x hx => (h2.2 x hx).trans (h1.2 x hx)⟩
 ·
  intro W k o o' hk hl hc _
  have key : ∀ b, b < w.heap.size → (W.putObj k o').heap[b]? = W.heap[b]? := fun b hb => World.putObj_heap_other (by omega)
  refine ⟨fun b o hn => World.cell?_of_block (w := W) (key b hn.1), fun x hx => key _ ?_⟩
  obtain ⟨T, hT⟩ := (htab x hx).1
  exact (Array.getElem?_eq_some_iff.1 hT).1
 ·
  rintro pre W W' row ⟨ρk, hk, hn⟩ hgr hr
  have hr' : ∀ r, row = some r → A.w.heap.size ≤ r ∧ ∃ o : Obj, W.heap[r]? = some o ∧ o.isCells = false := fun r e => ⟨Nat.le_trans hs.mem.size (hr r e).1, (hr r e).2⟩
  exact ⟨ρk, hk.grown (hnm pre) hgr hr', fun b o hb => (hk.mem.grown (hnm pre) hgr hr').2.2 b o (hn b o hb)⟩
 case assign =>
  intro lp x W K hK
  refine wpIn_region_lit (l := [_]) ?_
  unfold wpListIn
  rw [if_pos (show Region.wanted _ _ = true from rfl)]
  have hpa : p < a.tmps.size := by rw [hs.nt]; exact hp
  refine Oper.wpIn_of_wp (Wide.rd lp) (a := { tmps := a.tmps.setIfInBounds p (enc x), defers := [] }) (K := fun a' w' => a' = { tmps := (a.tmps.setIfInBounds p (enc x)).setIfInBounds v (enc x), defers := [] } ∧ w' = W) (by simp) (fun c h => by cases h) ?_ ?_ ?_
  ·
   have hv' : (Act.eval { tmps := a.tmps.setIfInBounds p (enc x), defers := [] } (.tmp p)) = enc x := by simp [Act.eval, Array.getD_eq_getD_getElem?, hpa]
   show Act.put { tmps := a.tmps.setIfInBounds p (enc x), defers := [] } (some v) (Act.eval { tmps := a.tmps.setIfInBounds p (enc x), defers := [] } (.tmp p)) = _ ∧ W = W
   rw [hv']
   exact ⟨rfl, rfl⟩
  ·
   rintro y w' ⟨hy, rfl⟩
   have : Act.put { tmps := (#[p].zip #[enc x]).foldl (fun t (q, v) => t.setIfInBounds q v) a.tmps, defers := [] } (some v) y = { tmps := (a.tmps.setIfInBounds p (enc x)).setIfInBounds v (enc x), defers := [] } := by
    rw [← hy]; simp
   rw [this]
   exact hK
  rintro d w' ⟨hy, -⟩
  have := congrArg Act.defers hy
  rw [put_defers] at this
  cases this
 case body =>
  rintro lp pre x W ⟨ρk, hk, hn⟩ hlen
  have hk1 : Sat (A.now (H pre) ρk W) ρk ⟨m, upd (upd (ls S) p (some (.v (enc x)))) v (some (.v (enc x))), H pre, U pre⟩ (bare { tmps := (a.tmps.setIfInBounds p (enc x)).setIfInBounds v (enc x), defers := [] }) W := by
   refine ⟨hk.mem.now, fun t y ht => ?_, by simp [bare, hk.nt], rfl⟩
   rcases upd_eq_some (f := upd (ls S) p (some (.v (enc x)))) (k := v) (x := some (.v (enc x))) ht with ⟨rfl, he⟩ | ⟨hne, he⟩
   ·
    cases he
    exact ⟨enc x, by simp [bare, hs.nt, hv], .v _⟩
   rcases upd_eq_some (f := ls S) (k := p) (x := some (.v (enc x))) he with ⟨rfl, he2⟩ | ⟨hne', he2⟩
   ·
    cases he2
    exact ⟨enc x, by simp only [bare]; rw [Array.getElem?_setIfInBounds_ne (Ne.symm hne), Array.getElem?_setIfInBounds_self_of_lt (by rw [hs.nt]; exact hp)], .v _⟩
   obtain ⟨z, hz, hvz⟩ := hk.slots t y he2
   exact ⟨z, by simp only [bare]; rw [Array.getElem?_setIfInBounds_ne (Ne.symm hne), Array.getElem?_setIfInBounds_ne (Ne.symm hne')]; exact hz, hvz.mono (fun b o hb => hb.now) (Env.le_refl _) (fun _ _ _ => rfl)⟩
  refine wpIn_block (wpIn_rg (Wide.rd lp) hdf (A := A.now (H pre) ρk W) hG (hbody (A.now (H pre) ρk W) pre x hG rfl hlen) hk1 ?_)
  rintro ρ1 σ1 a1 W1 ⟨σ2, hE, hn2, hs2, hh2, hu2⟩ hs1 hfr
  obtain ⟨ρ2, hs3⟩ := hE ρ1 _ W1 hs1
  have hm3 := hs3.mem
  rw [hh2, hu2] at hm3
  show KeepsOthers W W1 ∧ KpN (Nh A h0 ρ w) G W W1 ∧ _
  refine ⟨⟨hm3.size, fun k o hko ho => ?_⟩, ⟨fun b o hb => hm3.keep b o (hn b o hb), fun y hy => ?_⟩, ρ2, ⟨hk.mem.back hm3, fun t y ht => ?_, hk.nt, hk.defers⟩, fun b o hb => Nh.on hm3 (hn b o hb)⟩
  ·
   refine (hm3.block k (Array.getElem?_eq_some_iff.1 hko).1 ?_).trans hko
   rintro ⟨i, ob, hi, hb⟩
   obtain ⟨o', ho', hc'⟩ := (hk.mem.heap i ob hi).cells (hnm pre i ob hi) hb
   rw [hko] at ho'
   cases ho'
   rw [ho] at hc'
   cases hc'
  ·
   obtain ⟨⟨T, h1⟩, h2⟩ := hm3.tabs y (by show y ∈ A.G; rw [hG]; exact hy)
   exact hm3.block _ (Array.getElem?_eq_some_iff.1 h1).1 h2
  obtain ⟨z, hz, hvz⟩ := hs3.slots t y (hs2 t y ht)
  obtain ⟨o1, o2, o3⟩ := slOff_spec hf ht
  refine ⟨z, ?_, ?_⟩
  ·
   have := hfr.2 t o3
   rw [show (bare a1).tmps[t]? = a1.tmps[t]? from rfl, this] at hz
   rw [Array.getElem?_setIfInBounds_ne (Ne.symm o2), Array.getElem?_setIfInBounds_ne (Ne.symm o1)] at hz
   exact hz
  rw [hh2] at hvz
  exact hvz.mono (fun b o hb => hb.back hk.mem) (Env.le_refl _) (fun _ _ _ => rfl)
 case done =>
  rintro D xs W hD rfl ⟨ρk, hk, -⟩ hDd
  exact hQ D ρk W hDd (Nat.le_trans hs.mem.size hD) hk
end Go.Proofs.YtpnbpcopdckgpaaGreatDoor.E
namespace Go.Proofs.YtpnbpcopdckgpaaGreatDoor.E
open Go Go.RowKit V
theorem chain_mono {P : Program} {G : List (Nat × Array Value)} {ops : Array Oper} {K K' : AS → Prop} (hk : ∀ σ, K σ → K' σ) : ∀ {l : List Oper} {ds : List St} {σ : AS}, Chain P G ops K l ds σ → Chain P G ops K' l ds σ
 | [], [], _, h => hk _ h
 | _ :: _, _ :: _, _, h => ⟨h.1, chain_mono hk h.2⟩
 | [], _ :: _, _, h => h.elim
 | _ :: _, [], _, h => h.elim
theorem lh_noMp {l : List (Nat × AO)} (h : (l.all fun x => x.2.noMp) = true) {i : Nat} {ob : AO} (hi : lh l i = some ob) : ob.noMp = true := List.all_eq_true.1 h _ (lh_some hi)
theorem hl_noMp {H : List (Option AO)} (h : (H.all fun o => match o with | some x => x.noMp | none => true) = true) {i : Nat} {ob : AO} (hi : hl H i = some ob) : ob.noMp = true :=
 List.all_eq_true.1 h _ (List.mem_of_getElem? (hl_some hi).2)
def mark (D : Nat) : Deferred := { target := .collected D, args := #[] }
def Marked (A : Amb) (a : Act) (w : World) : Prop := a.defers = [] ∨ ∃ D, a.defers = [mark D] ∧ w.heap[D]? = some (.deferred (some [])) ∧ A.w.heap.size ≤ D
def RetM (A : Amb) (rs : List Tmp) (res : AV) (H' : List (Option AO)) (e : Exit) (a : Act) (w : World) : Prop :=
 (e = .normal ∨ e = .ret) ∧ Marked A a w ∧ ∃ ρ σ, Sat A ρ σ (bare a) w ∧ Ret A rs res H' .ret σ
structure WPM (P : Program) (A : Amb) (rs : List Tmp) (res : AV) (H' : List (Option AO)) (c : Code) (σ : AS) : Prop where
 run : ∀ ρ a w, Sat A ρ σ a w → c.wp P (RetM A rs res H') a w
structure WPS (P : Program) (A : Amb) (rs : List Tmp) (res : AV) (H' : List (Option AO)) (y z : Code) (σ : AS) : Prop where
 run : ∀ ρ a w, Sat A ρ σ a w → y.wp P (Exit.then (z.wp P (RetM A rs res H')) (RetM A rs res H')) a w
theorem retM_of {A : Amb} {rs : List Tmp} {res : AV} {H' : List (Option AO)} {e : Exit} {ρ : Env} {σ : AS} {a : Act} {w : World} (h : Ret A rs res H' e σ) (hs : Sat A ρ σ a w) : RetM A rs res H' e a w := by
 have hb : Sat A ρ σ (bare a) w := by rw [bare_of hs.defers]; exact hs
 cases e with
 | normal => exact ⟨.inl rfl, .inl hs.defers, ρ, σ, hb, h⟩
 | ret => exact ⟨.inr rfl, .inl hs.defers, ρ, σ, hb, h⟩
 | _ => exact h.elim
section
variable {P : Program} {G : List (Nat × Array Value)} {A : Amb} {rs : List Tmp} {res : AV} {H' : List (Option AO)} {σ : AS}
theorem WPM.seq {x y : Code} (h : WP P A x (thn (fun σ' => WPM P A rs res H' y σ') (Ret A rs res H')) σ) : WPM P A rs res H' (.seq x y) σ := by
 constructor
 intro ρ a w hs
 refine wp_seq (wp_mono (h.run ρ a w hs) ?_)
 rintro e a' w' ⟨σ', ρ', q, s⟩
 cases e with
 | normal => exact WPM.run q ρ' a' w' s
 | _ => exact retM_of q s
theorem WPM.seqS {x y z : Code} (h : WP P A x (thn (fun σ' => WPS P A rs res H' y z σ') (Ret A rs res H')) σ) : WPM P A rs res H' (.seq (.seq x y) z) σ := by
 constructor
 intro ρ a w hs
 refine wp_seq (wp_seq (wp_mono (h.run ρ a w hs) ?_))
 rintro e a' w' ⟨σ', ρ', q, s⟩
 cases e with
 | normal => exact WPS.run q ρ' a' w' s
 | _ => exact retM_of q s
theorem wp_endM {ρ : Env} {a : Act} {w : World} {D : Nat} (hs : Sat A ρ σ a w) (hnm : ∀ i ob, σ.h i = some ob → ob.noMp = true) (hG : A.G = G) (hD : w.heap[D]? = some (.deferred (some []))) (hA : A.w.heap.size ≤ D) {id : Nat} {l : List Oper} (hdf : noDf l = true)
  (hc : ∀ A' : Amb, A'.G = G → A'.nA = A.nA → Ch P G l false (Ret A' rs res H' .ret) [] l σ) : ((Code.region id l.toArray false).seq .ret).wp P (RetM A rs res H') { a with defers := mark D :: a.defers } w := by
 refine wp_seq ((wpIn_wide (n := 0)).1 ?_)
 have hs1 : Sat (A.now σ.h ρ w) ρ σ (bare { a with defers := mark D :: a.defers }) w := by
  have e : bare { a with defers := mark D :: a.defers } = a := bare_of hs.defers ▸ rfl
  rw [e]
  exact ⟨hs.mem.now, fun t v ht => by obtain ⟨x, hx, hv⟩ := hs.slots t v ht; exact ⟨x, hx, hv.mono (fun b o hb => hb.now) (Env.le_refl _) (fun _ _ _ => rfl)⟩, hs.nt, hs.defers⟩
 refine wpIn_rg Wide.w hdf (A := A.now σ.h ρ w) hG (hc (A.now σ.h ρ w) hG rfl) hs1 ?_
 rintro ρ1 σ1 a1 w1 ⟨σ2, hE, h1, h2, h3⟩ hs2 hfr
 show Code.ret.wp P (RetM A rs res H') a1 w1
 obtain ⟨ρ2, hs3⟩ := hE ρ1 _ w1 hs2
 refine wp_ret ⟨.inr rfl, .inr ⟨D, ?_, ?_, hA⟩, ρ2, σ2, ⟨hs.mem.back hs3.mem, fun t v ht => ?_, hs3.nt, rfl⟩, σ2, fun ρ' a' w' h => ⟨ρ', h⟩, h1, h2, h3⟩
 ·
  rw [hfr.1]
  show mark D :: a.defers = _
  rw [hs.defers]
 ·
  refine (hs3.mem.block D (Array.getElem?_eq_some_iff.1 hD).1 ?_).trans hD
  rintro ⟨i, ob, hi, hb⟩
  obtain ⟨o', ho', hc'⟩ := (hs.mem.heap i ob hi).cells (hnm i ob hi) hb
  rw [hD] at ho'
  cases ho'
  cases hc'
 obtain ⟨x, hx, hv⟩ := hs3.slots t v ht
 exact ⟨x, hx, hv.mono (fun b o hb => hb.back hs.mem) (Env.le_refl _) (fun _ _ _ => rfl)⟩
theorem WPS.range {g : Operand} {p v b0 ia ib ir id : Nat} {ty : TypeId} {pos : String} {aft : Array Edge} {l l2 : List Oper} {f : FuncId} {caps : List AV} {α : Type} {enc : α → Value} {L : List α} (hG : A.G = G) {m : Nat} (S : List (Nat × AV)) (H : List α → List (Nat × AO)) (M : Nat)
  (hE : SEnt A σ ⟨m, ls S, lh (H []), blt M⟩) (hg : (⟨m, ls S, lh (H []), blt M⟩ : AS).ev g = some (.fn (.func f) [] caps)) (hseq : SeqC P G f caps enc L)
  (hp : p < m) (hv : v < m) (hf : slOff S p v l = true) (hdf : noDf l = true) (hdf2 : noDf l2 = true)
  (hbody : ∀ (A' : Amb) (pre : List α) (x : α), A'.G = G → A'.nA = A.nA → pre.length < L.length → Ch P G l false (fun σ' => SEnt A' σ' ⟨m, ls S, lh (H (pre ++ [x])), blt M⟩) [] l ⟨m, upd (upd (ls S) p (some (.v (enc x)))) v (some (.v (enc x))), lh (H pre), blt M⟩)
  (hend : ∀ A' : Amb, A'.G = G → A'.nA = A.nA → Ch P G l2 false (Ret A' rs res H' .ret) [] l2 ⟨m, ls S, lh (H L), blt M⟩) (hnm : ∀ L' : List α, ((H L').all fun x => x.2.noMp) = true := by intro _; rfl) :
  WPS P A rs res H' (.block b0 (Code.rangeFunc g #[p] (.region ia #[⟨some v, .assign (.tmp p), ty, pos, aft, none⟩] false) (.block ib (.region ir l.toArray false)))) ((Code.region id l2.toArray false).seq .ret) σ := by
 constructor
 intro ρ a w hs
 obtain ⟨ρ0, hs0⟩ := hE ρ a w hs
 refine wp_block (wp_rangeF hG hs0 hg hseq (fun pre => lh (H pre)) (fun _ => blt M) rfl rfl (fun L' i ob hi => lh_noMp (hnm L') hi) hp hv hf hdf (fun A' pre x h1 h2 h3 => ?_) fun D ρ' W hD hA hsW => wp_endM hsW (fun i ob hi => lh_noMp (hnm L) hi) hG hD hA hdf2 hend)
 obtain ⟨ds, k1, k2⟩ := (hbody A' pre x h1 h2 h3).e
 exact ⟨ds, chain_mono (fun σ' h => ⟨_, h, rfl, fun _ _ h => h, rfl, rfl⟩) k1, fun h => nomatch h⟩
end
theorem ret_val {A : Amb} {ρ' : Env} {σ' : AS} {a : Act} {w : World} (hs' : Sat A ρ' σ' a w) : ∀ {rs : List Tmp} {res : AV}, RetV rs res σ' →
  VRel (Nh A σ'.h ρ' w) ρ' w res (match rs with | [t] => a.tmps.getD t undef | rs => .tuple (rs.map fun t => a.tmps.getD t undef).toArray)
 | [t], res, h3 => hs'.ev (x := .tmp t) h3
 | [], res, h3 => by
  obtain ⟨vs, hres, hl, hsl⟩ := h3
  subst hres
  obtain rfl : vs = [] := List.eq_nil_of_length_eq_zero hl
  exact .tup [] _ rfl (fun i c x hc hx => by simp at hc)
 | t :: u :: r, res, h3 => by
  obtain ⟨vs, hres, hl, hsl⟩ := h3
  subst hres
  refine .tup vs _ (by simp [hl]) (fun i c x hc hx => ?_)
  have hlt : i < (t :: u :: r).length := by rw [← hl]; exact (List.getElem?_eq_some_iff.1 hc).1
  have hget : (t :: u :: r)[i]? = some ((t :: u :: r)[i]) := List.getElem?_eq_getElem hlt
  have := hs'.ev (x := .tmp _) (hsl.get hget hc)
  have hx' : x = a.eval (.tmp (t :: u :: r)[i]) := by
   rw [List.getElem?_toArray, List.getElem?_map, hget] at hx
   simp at hx
   rw [← hx]
   simp [Act.eval]
  rw [hx']
  exact this
theorem FC.of_wpm {P : Program} {G : List (Nat × Array Value)} {f : FuncId} {fn : Func} {c : Code} {args : List AV} {H H' : List (Option AO)} {res : AV} (rs : List Tmp) (hf : P.funcs[f]? = some fn) (hname : (fn.name == "runtime.NumGoroutine") = false) (hb : fn.body = some c)
  (hn' : Nat.ble args.length fn.ntmps = true) (hr : fn.results = (rs.map ResultVar.tmp).toArray) (belA : AV.belL (blt H.length) args) (bH : E.belH (blt H.length) H) (len : H.length ≤ H'.length)
  (h : ∀ A : Amb, A.G = G → A.nA = H.length → (∀ b, A.B b → ∃ i ob, hl H i = some ob ∧ ob.at_ A.ρ i b) → WPM P A rs res H' c (start fn.ntmps args H)) (hnm : (H'.all fun o => match o with | some x => x.noMp | none => true) = true := by rfl) : FC P G f args H res H' := by
 have hn : args.length ≤ fn.ntmps := Nat.le_of_ble_eq_true hn'
 refine ⟨⟨fn, c, hf, hname, hb⟩, belA, bH, len, ?_⟩
 intro A vs hG hnA HS hAB hsz hargs
 have hs : Sat A A.ρ (start fn.ntmps args H) { tmps := vs ++ Array.replicate (fn.ntmps - vs.size) undef, defers := [] } A.w := by
  refine ⟨HS, ?_, ?_, rfl⟩
  ·
   intro t v ht
   have ht' : args[t]? = some v := ht
   have hlt := (List.getElem?_eq_some_iff.1 ht').1
   have hx : vs[t]? = some vs[t] := Array.getElem?_eq_getElem (by omega)
   refine ⟨vs[t], ?_, hargs t v _ ht' hx⟩
   rw [Array.getElem?_append_left (by omega)]
   exact hx
  simp [start]; omega
 refine (callsIn_wide (n := 0)).1 (callsIn_of_wp_marks hf hb trivial (wpIn_wide.2 (wp_mono ((h A hG hnA hAB).run A.ρ _ A.w hs) ?_)) rfl)
 rintro e a w' ⟨he, hM, ρ, σ, hs1, σ', hE, h1, h2, h3⟩
 obtain ⟨ρ', hs'⟩ := hE ρ _ w' hs1
 have hv := ret_val hs' h3
 have hm := hs'.mem
 rw [h1] at hv hm
 rw [h2] at hm
 have fin : LeavesInM Fence.wide 0 P fn a.tmps (fun e w' => ∃ v ρ', e = .returned v ∧ HSat A ρ' (hl H') (blt H'.length) w' ∧ VRel (Nh A (hl H') ρ' w') ρ' w' res v) a.defers .returning w' := by
  rcases hM with hd | ⟨D, hd, hD, hA⟩
  ·
   rw [hd]
   exact ⟨_, run_results P fn a.tmps w' rs hr, _, ρ', rfl, hm, hv⟩
  rw [hd]
  refine ⟨by simp, .inl ⟨D, _, rfl, run_takeDeferred hD, ?_⟩⟩
  obtain ⟨g1, g2, -⟩ := hm.grown (fun i ob hi => hl_noMp hnm hi) (grownBy_putObj' w' D (.deferred none)) (fun r e => by cases e; exact ⟨hA, _, hD, rfl⟩)
  exact ⟨_, run_results P fn a.tmps _ rs hr, _, ρ', rfl, g1, g2 _ _ hv⟩
 rcases he with rfl | rfl
 · exact fin
 exact fin
end Go.Proofs.YtpnbpcopdckgpaaGreatDoor.E
