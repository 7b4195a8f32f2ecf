import Derived.Test.YtpnbpcopdckgpaaGreatDoorZ4c04cd34
import Derived.Test.YtpnbpcopdckgpaaGreatDoorZ9169d62d
import Derived.Lib.LaidTab
import Derived.LaidSub
import Derived.Test.YtpnbpcopdckgpaaGreatDoorZ5357b33c
import Derived.Test.YtpnbpcopdckgpaaGreatDoorZ15291e1b
import Derived.Test.YtpnbpcopdckgpaaGreatDoorCards
import Derived.Test.YtpnbpcopdckgpaaGreatDoorTie
import Derived.ProofKit
import Derived.OpenShut
import Derived.Deep.DeepHandedRow
import Derived.SizedLaws
import Derived.SliceStrings
import Derived.Test.YtpnbpcopdckgpaaGreatDoorZ8474835d
section
namespace Go.Proofs.YtpnbpcopdckgpaaGreatDoor.E
open Go Go.RowKit Go.Proofs.YtpnbpcopdckgpaaGreatDoor.V
set_option maxRecDepth 4000
set_option maxRecDepth 4000
def inT (v : UInt64) (pa pl : Txt) : Txt := input 12 [beS v 8, pa, pl]
def in0T : Txt := input 12 []
theorem inT_len (v : UInt64) (pa pl : Txt) : (inT v pa pl).length = 21 + pa.length + pl.length := by
 unfold inT
 rw [inp3_len, beS_length]
theorem in0T_len : in0T.length = 1 := inp0_len 12
theorem inT_inj {v w : UInt64} {a p b q : Txt} (ha : a.length < 4294967296) (hp : p.length < 4294967296) (hb : b.length < 4294967296) (hq : q.length < 4294967296) (h : inT v a p = inT w b q) : v = w ∧ a = b ∧ p = q := by
 have h8 : ∀ u : UInt64, (beS u 8).length < 4294967296 := fun u => by rw [beS_length]; decide
 have := (input_inj (a := [beS v 8, a, p]) (b := [beS w 8, b, q]) (by
  intro x hx
  simp only [List.mem_cons, List.not_mem_nil, or_false] at hx
  rcases hx with rfl | rfl | rfl
  · exact h8 v
  · exact ha
  · exact hp) (by
  intro x hx
  simp only [List.mem_cons, List.not_mem_nil, or_false] at hx
  rcases hx with rfl | rfl | rfl
  · exact h8 w
  · exact hb
  · exact hq)).1 h
 have h2 := this.2
 simp only [List.cons.injEq, and_true] at h2
 refine ⟨?_, h2.2.1, h2.2.2⟩
 have := congrArg valU h2.1
 rwa [valU_be8, valU_be8] at this
theorem ids_cases (v w : UInt64) (a p b q : Txt) (ha : a.length < 4294967296) (hp : p.length < 4294967296) (hb : b.length < 4294967296) (hq : q.length < 4294967296) (S : Bool) (hS : S = decide (v = w ∧ a = b ∧ p = q)) :
  (decide (idT v a p = idT w b q) = S ∧ idT v a p ≠ firstT) ∨
  (Coll [inT v a p, inT w b q, in0T] ∧ ((S = true ∧ idT v a p = idT w b q ∧ idT v a p = firstT) ∨ (S = false ∧ idT v a p ≠ idT w b q ∧ idT v a p = firstT) ∨ (S = false ∧ idT v a p = idT w b q))) := by
 have hne : inT v a p ≠ in0T := fun h => by
  have := congrArg List.length h
  rw [inT_len, in0T_len] at this
  omega
 have c1 : idT v a p = firstT → Coll [inT v a p, inT w b q, in0T] := fun h => ⟨inT v a p, by simp, in0T, by simp, hne, h⟩
 by_cases hf : idT v a p = firstT
 ·
  refine .inr ⟨c1 hf, ?_⟩
  by_cases hx : idT v a p = idT w b q
  ·
   cases S with
   | true => exact .inl ⟨rfl, hx, hf⟩
   | false => exact .inr (.inr ⟨rfl, hx⟩)
  ·
   cases S with
   | true =>
    obtain ⟨rfl, rfl, rfl⟩ := of_decide_eq_true hS.symm
    exact absurd rfl hx
   | false => exact .inr (.inl ⟨rfl, hx, hf⟩)
 ·
  by_cases hx : idT v a p = idT w b q
  ·
   cases S with
   | true => exact .inl ⟨decide_eq_true hx, hf⟩
   | false =>
    refine .inr ⟨⟨inT v a p, by simp, inT w b q, by simp, ?_, hx⟩, .inr (.inr ⟨rfl, hx⟩)⟩
    intro h
    exact absurd (inT_inj ha hp hb hq h) (of_decide_eq_false hS.symm)
  ·
   cases S with
   | true =>
    obtain ⟨rfl, rfl, rfl⟩ := of_decide_eq_true hS.symm
    exact absurd rfl hx
   | false => exact .inl ⟨decide_eq_false hx, hf⟩
section
variable {P : Program} {G : List (Nat × Array Value)} {dst : Option Tmp} {ty : TypeId} {pos : String} {aft : Array Edge} {gd : Option (Nat × Bool)}
theorem OpS.boolEqS {t t' : TypeId} {x y : Operand} {a : Bool} (hu : P.underlying t = some .bool) :
  OpS P G ⟨dst, .binOp .eql t x y t', ty, pos, aft, gd⟩ [(x, .v (.bool a)), (y, .v (.bool a))] [] ⟨some (.v (.bool true)), [], []⟩ := by
 have h := OpS.boolEql (P := P) (G := G) (dst := dst) (ty := ty) (pos := pos) (aft := aft) (gd := gd) (t' := t') (x := x) (y := y) (a := a) (b := a) hu
 rwa [beq_self_eq_true] at h
end
attribute [local irreducible] sum tag input beS leadT idT firstT inT in0T
section
variable {G : List (Nat × Array Value)}
theorem linput_fc (v : UInt64) (pa pl : Txt) (hl : pa.length + pl.length ≤ 140737488355300) : FP G 20 [.v (.int .u64 (U64 v)), sA pa, sA pl] [] (sA (inT v pa pl)) [] := by
 have hbl := beS_length v 8
 have hw := rwNum_fc (G := G) [] v (by decide)
 have hb := rwBytes_fc (G := G) (beS v 8)
 have ht := rinput_fc (G := G) 12 [beS v 8, pa, pl] (by rw [inp3_len, hbl]; omega)
 rw [show input 12 [beS v 8, pa, pl] = inT v pa pl by with_unfolding_all rfl] at ht
 refine FC.of_wp [6] Tryz.func20 rfl rfl rfl rfl (by trivial) (by trivial) (Nat.le_of_ble_eq_true rfl) ?_
 intro A hG hnA hAB
 unfold start
 refine WP.rs hG (Ch.asg rfl rfl (Ch.nil (WP.rs hG ?_)))
 refine Ch.cH (rnewWriter_fc) [] 0 gdN .nil .n rfl (by refine ⟨?_, ?_, ?_, ?_⟩ <;> first | ((conv => lhs; simp only [nrmA, Nat.reduceAdd]); all_goals rfl) | rfl) (by exact trivial) (by exact ⟨rfl, trivial⟩) rfl ?_
 refine Ch.asg rfl rfl (Ch.nil (WP.rs hG (Ch.mv rfl rfl (Ch.mv rfl rfl ?_))))
 refine Ch.cH (hw) [0] 1 gdN (.cons rfl (.cons rfl .nil)) (.c (.rfl _) (.c (.rfl _) .n)) rfl (by refine ⟨?_, ?_, ?_, ?_⟩ <;> first | ((conv => lhs; simp only [nrmA, Nat.reduceAdd]); all_goals rfl) | rfl) (by exact ⟨rfl, trivial⟩) (by exact trivial) rfl ?_
 refine Ch.nil (WP.rs hG (Ch.mv rfl rfl ?_))
 refine Ch.cH (hb) [0] 1 gdN (.cons rfl .nil) (.c (.rfl _) .n) rfl (by refine ⟨?_, ?_, ?_, ?_⟩ <;> first | ((conv => lhs; simp only [nrmA, Nat.reduceAdd]); all_goals rfl) | rfl) (by exact ⟨rfl, trivial⟩) (by exact trivial) rfl ?_
 refine Ch.mv rfl rfl (Ch.mv rfl rfl (Ch.pup gdN (by repeat (first | exact EvP.nil | (apply EvP.cons; exact rfl))) (OpS.slice1 (ys := ([beS v 8, pa, pl] : List Txt).map sA) rfl rfl rfl rfl rfl rfl (by rfl) rfl (by rfl)) rfl ?_))
 refine Ch.callP (ht) gdN (.cons rfl (.cons rfl .nil)) (.c (.rfl _) (.c (.rfl _) .n)) (by rfl) rfl ?_
 refine Ch.asg rfl rfl (Ch.nil ?_)
 exact WP.ret (Ret.one rfl (.of_eq rfl) trivial hnA)
theorem repIDs_fc (hm : ShaIn G) (hr : RefIn G) (v : UInt64) (a p : Txt) (w : UInt64) (b q : Txt) (ha : a.length ≤ 1048576) (hp : p.length ≤ 1048576) (hb : b.length ≤ 1048576) (hq' : q.length ≤ 1048576) : FP G 5 [.v (.int .u64 (U64 v)), sA a, sA p, .v (.int .u64 (U64 w)), sA b, sA q] [] (.v (.bool true)) [] := by
 have f1 := rID_fc hm v a p (by omega)
 have f2 := rID_fc hm w b q (by omega)
 have f3 := rFirst_fc hm
 have g1 := linput_fc (G := G) v a p (by omega)
 have g2 := linput_fc (G := G) w b q (by omega)
 have g3 := rinput_fc (G := G) 12 [] (by rw [inp0_len]; decide)
 rw [show input 12 [] = in0T by with_unfolding_all rfl] at g3
 have k1 := idT_32 v a p
 obtain ⟨S, hS⟩ : ∃ S, S = decide (v = w ∧ a = b ∧ p = q) := ⟨_, rfl⟩
 have hcase := ids_cases v w a p b q (by omega) (by omega) (by omega) (by omega) S hS
 have hcl : Coll [inT v a p, inT w b q, in0T] → FP G 19 [.sl none 3 ([inT v a p, inT w b q, in0T].map sA)] [] (.v (.bool true)) [] := fun h => clash_fc hm _ (by simp) (by
  intro x hx
  have e1 := inT_len v a p
  have e2 := inT_len w b q
  have e3 := in0T_len
  simp only [List.mem_cons, List.not_mem_nil, or_false] at hx
  rcases hx with rfl | rfl | rfl <;> omega) h
 have hU : (U64 v == U64 w) = decide (v = w) := by
  rw [Bool.eq_iff_iff, beq_iff_eq, decide_eq_true_iff]
  exact ⟨U64_eq, fun h => by rw [h]⟩
 refine FC.of_wp [12] Tryz.func5 rfl rfl rfl rfl (by trivial) (by trivial) (Nat.le_of_ble_eq_true rfl) ?_
 intro A hG hnA hAB
 unfold start
 refine WP.rs hG (Ch.asg rfl rfl (Ch.nil (WP.rs hG (Ch.callP (rawake_fc hm hr) gdN .nil .n (by rfl) rfl ?_))))
 refine Ch.asg rfl rfl (Ch.nil (WP.rs hG (Ch.mv rfl rfl (Ch.mv rfl rfl (Ch.mv rfl rfl (Ch.callP (f1) gdN (.cons rfl (.cons rfl (.cons rfl .nil))) (.c (.rfl _) (.c (.rfl _) (.c (.rfl _) .n))) (by rfl) rfl ?_))))))
 refine Ch.asg rfl rfl (Ch.nil (WP.rs hG (Ch.mv rfl rfl (Ch.mv rfl rfl (Ch.mv rfl rfl (Ch.callP (f2) gdN (.cons rfl (.cons rfl (.cons rfl .nil))) (.c (.rfl _) (.c (.rfl _) (.c (.rfl _) .n))) (by rfl) rfl ?_))))))
 refine Ch.asg rfl rfl (Ch.nil ?_)
 refine WP.seqJ (fun σ => σ = ⟨80, ls [(0, .v (.int .u64 (U64 v))), (1, sA a), (2, sA p), (3, .v (.int .u64 (U64 w))), (4, sA b), (5, sA q), (13, .v (.bool true)), (14, sA (idT v a p)), (15, sA (idT w b q)), (16, .v (.bool S))], lh [], blt 0⟩) ?_ ?_
 ·
  skip
  rcases (show v ≠ w ∨ (v = w ∧ a ≠ b) ∨ (v = w ∧ a = b ∧ p ≠ q) ∨ (v = w ∧ a = b ∧ p = q) by by_cases h1 : v = w <;> by_cases h2 : a = b <;> by_cases h3 : p = q <;> simp [h1, h2, h3]) with hq | hq | hq | hq
  ·
   have hs := hq
   refine WP.rg hG (Ch.mv rfl rfl (Ch.mv rfl rfl (Ch.p2 rfl rfl (OpS.int (op := .eql) (v' := .bool false) rfl (by rw [hU]; exact congrArg Value.bool (decide_eq_false hs))) rfl ?_)))
   refine Ch.mv rfl rfl (Ch.skU (gdF rfl rfl rfl) rfl (Ch.skU (gdF rfl rfl rfl) rfl (Ch.skU (gdF rfl rfl rfl) rfl (Ch.p2 rfl rfl (OpS.pickF) rfl (Ch.mv rfl rfl (Ch.skU (gdF rfl rfl rfl) rfl (Ch.skU (gdF rfl rfl rfl) rfl (Ch.skU (gdF rfl rfl rfl) rfl (Ch.p2 rfl rfl (OpS.pickF) rfl ?_)))))))))
   refine Ch.asg rfl rfl (Ch.nil ?_)
   refine ⟨_, (Ent.of [] ?_ ?_ ?_ ?_).se, rfl⟩
   · exact na_of hnA rfl
   · (repeat (first | exact trivial | (refine And.intro ⟨(by trivial), _, rfl, (by first | exact .rfl _ | exact .of_eq (by simp [hS, hs]; first | done | fail))⟩ ?_)))
   · (repeat (first | exact trivial | (refine And.intro ⟨rfl, (by first | trivial | (simp; first | done | fail) | exact ⟨trivial, hbel _⟩), (by first | rfl | (simp [hS, hs]; first | done | fail))⟩ ?_)))
   · exact nd_of rfl
  ·
   have hs := hq
   refine WP.rg hG (Ch.mv rfl rfl (Ch.mv rfl rfl (Ch.p2 rfl rfl (OpS.int (op := .eql) (v' := .bool true) rfl (by rw [hU]; exact congrArg Value.bool (decide_eq_true hs.1))) rfl ?_)))
   refine Ch.mv rfl rfl (Ch.gm rfl rfl rfl rfl (Ch.gm rfl rfl rfl rfl (Ch.g2 rfl rfl rfl rfl (OpS.strEqB (c := false) (decide_eq_false hs.2)) rfl (Ch.p2 rfl rfl (OpS.pickT) rfl (Ch.mv rfl rfl (Ch.skU (gdF rfl rfl rfl) rfl (Ch.skU (gdF rfl rfl rfl) rfl (Ch.skU (gdF rfl rfl rfl) rfl (Ch.p2 rfl rfl (OpS.pickF) rfl ?_)))))))))
   refine Ch.asg rfl rfl (Ch.nil ?_)
   refine ⟨_, (Ent.of [] ?_ ?_ ?_ ?_).se, rfl⟩
   · exact na_of hnA rfl
   · (repeat (first | exact trivial | (refine And.intro ⟨(by trivial), _, rfl, (by first | exact .rfl _ | exact .of_eq (by simp [hS, hs]; first | done | fail))⟩ ?_)))
   · (repeat (first | exact trivial | (refine And.intro ⟨rfl, (by first | trivial | (simp; first | done | fail) | exact ⟨trivial, hbel _⟩), (by first | rfl | (simp [hS, hs]; first | done | fail))⟩ ?_)))
   · exact nd_of rfl
  ·
   have hs := hq
   refine WP.rg hG (Ch.mv rfl rfl (Ch.mv rfl rfl (Ch.p2 rfl rfl (OpS.int (op := .eql) (v' := .bool true) rfl (by rw [hU]; exact congrArg Value.bool (decide_eq_true hs.1))) rfl ?_)))
   refine Ch.mv rfl rfl (Ch.gm rfl rfl rfl rfl (Ch.gm rfl rfl rfl rfl (Ch.g2 rfl rfl rfl rfl (OpS.strEqB (c := true) (decide_eq_true hs.2.1)) rfl (Ch.p2 rfl rfl (OpS.pickT) rfl (Ch.mv rfl rfl (Ch.gm rfl rfl rfl rfl (Ch.gm rfl rfl rfl rfl (Ch.g2 rfl rfl rfl rfl (OpS.strEqB (c := false) (decide_eq_false hs.2.2)) rfl (Ch.p2 rfl rfl (OpS.pickT) rfl ?_)))))))))
   refine Ch.asg rfl rfl (Ch.nil ?_)
   refine ⟨_, (Ent.of [] ?_ ?_ ?_ ?_).se, rfl⟩
   · exact na_of hnA rfl
   · (repeat (first | exact trivial | (refine And.intro ⟨(by trivial), _, rfl, (by first | exact .rfl _ | exact .of_eq (by simp [hS, hs]; first | done | fail))⟩ ?_)))
   · (repeat (first | exact trivial | (refine And.intro ⟨rfl, (by first | trivial | (simp; first | done | fail) | exact ⟨trivial, hbel _⟩), (by first | rfl | (simp [hS, hs]; first | done | fail))⟩ ?_)))
   · exact nd_of rfl
  ·
   have hs := hq
   refine WP.rg hG (Ch.mv rfl rfl (Ch.mv rfl rfl (Ch.p2 rfl rfl (OpS.int (op := .eql) (v' := .bool true) rfl (by rw [hU]; exact congrArg Value.bool (decide_eq_true hs.1))) rfl ?_)))
   refine Ch.mv rfl rfl (Ch.gm rfl rfl rfl rfl (Ch.gm rfl rfl rfl rfl (Ch.g2 rfl rfl rfl rfl (OpS.strEqB (c := true) (decide_eq_true hs.2.1)) rfl (Ch.p2 rfl rfl (OpS.pickT) rfl (Ch.mv rfl rfl (Ch.gm rfl rfl rfl rfl (Ch.gm rfl rfl rfl rfl (Ch.g2 rfl rfl rfl rfl (OpS.strEqB (c := true) (decide_eq_true hs.2.2)) rfl (Ch.p2 rfl rfl (OpS.pickT) rfl ?_)))))))))
   refine Ch.asg rfl rfl (Ch.nil ?_)
   refine ⟨_, (Ent.of [] ?_ ?_ ?_ ?_).se, rfl⟩
   · exact na_of hnA rfl
   · (repeat (first | exact trivial | (refine And.intro ⟨(by trivial), _, rfl, (by first | exact .rfl _ | exact .of_eq (by simp [hS, hs]; first | done | fail))⟩ ?_)))
   · (repeat (first | exact trivial | (refine And.intro ⟨rfl, (by first | trivial | (simp; first | done | fail) | exact ⟨trivial, hbel _⟩), (by first | rfl | (simp [hS, hs]; first | done | fail))⟩ ?_)))
   · exact nd_of rfl
 ·
  rintro σ rfl
  refine WP.seq ?_
  rcases hcase with hq | ⟨hco, ⟨rfl, hq⟩ | ⟨rfl, hq⟩ | ⟨rfl, hq⟩⟩
  ·
   have hs := hq
   refine WP.rs hG (Ch.mv rfl rfl (Ch.mv rfl rfl (Ch.p2 rfl rfl (OpS.strEqB (c := S) hs.1) rfl (Ch.mv rfl rfl (Ch.p2 rfl rfl (OpS.boolEqS rfl) rfl (Ch.mv rfl rfl (Ch.gm rfl rfl rfl rfl (Ch.callP (f3) (gdT rfl rfl) .nil .n (by rfl) rfl ?_))))))))
   refine Ch.g2 rfl rfl rfl rfl (OpS.strNeB (c := true) (by rw [decide_eq_false hs.2]; rfl)) rfl ?_
   refine Ch.p2 rfl rfl (OpS.pickT) rfl (Ch.mv rfl rfl (Ch.gm rfl rfl rfl rfl (Ch.g1 rfl rfl rfl (OpS.lenS rfl) rfl (Ch.g2 rfl rfl rfl rfl (OpS.eqlT (by rw [k1]; rfl)) rfl ?_))))
   refine Ch.p2 rfl rfl (OpS.pickT) rfl (Ch.nil (WP.cond_true rfl (WP.rs hG (Ch.mv rfl rfl (Ch.asg rfl rfl (Ch.nil ?_))))))
   exact WP.ret (Ret.one rfl (.of_eq rfl) trivial hnA)
  ·
   have hs := hq
   refine WP.rs hG (Ch.mv rfl rfl (Ch.mv rfl rfl (Ch.p2 rfl rfl (OpS.strEqB (c := true) (decide_eq_true hs.1)) rfl (Ch.mv rfl rfl (Ch.p2 rfl rfl (OpS.boolEql rfl) rfl (Ch.mv rfl rfl (Ch.gm rfl rfl rfl rfl (Ch.callP (f3) (gdT rfl rfl) .nil .n (by rfl) rfl ?_))))))))
   refine Ch.g2 rfl rfl rfl rfl (OpS.strNeB (c := false) (by rw [decide_eq_true hs.2]; rfl)) rfl ?_
   refine Ch.p2 rfl rfl (OpS.pickT) rfl (Ch.mv rfl rfl (Ch.skU (gdF rfl rfl rfl) rfl (Ch.skU (gdF rfl rfl rfl) rfl (Ch.skU (gdF rfl rfl rfl) rfl (Ch.p2 rfl rfl (OpS.pickF) rfl (Ch.nil (WP.cond_false rfl (WP.skip (WP.seq ?_)))))))))
   refine WP.rs hG (Ch.mv rfl rfl (Ch.mv rfl rfl (Ch.gm rfl rfl rfl rfl (Ch.gm rfl rfl rfl rfl (Ch.g2 rfl rfl rfl rfl (OpS.strNeB (c := false) (by rw [decide_eq_true hs.1]; rfl)) rfl ?_)))))
   refine Ch.p2 rfl rfl (OpS.pickT) rfl (Ch.mv rfl rfl (Ch.gm rfl rfl rfl rfl (Ch.g1 rfl rfl rfl (OpS.lenS rfl) rfl (Ch.g2 rfl rfl rfl rfl (OpS.neqF (by rw [k1]; rfl)) rfl ?_))))
   refine Ch.p2 rfl rfl (OpS.pickF) rfl (Ch.nil (WP.cond_false rfl (WP.skip (WP.rs hG (Ch.mv rfl rfl (Ch.mv rfl rfl (Ch.gm rfl rfl rfl rfl (Ch.gm rfl rfl rfl rfl (Ch.gm rfl rfl rfl rfl ?_)))))))))
   refine Ch.callP (g1) (gdT rfl rfl) (.cons rfl (.cons rfl (.cons rfl .nil))) (.c (.rfl _) (.c (.rfl _) (.c (.rfl _) .n))) (by rfl) rfl ?_
   refine Ch.gm rfl rfl rfl rfl (Ch.gm rfl rfl rfl rfl (Ch.gm rfl rfl rfl rfl (Ch.callP (g2) (gdT rfl rfl) (.cons rfl (.cons rfl (.cons rfl .nil))) (.c (.rfl _) (.c (.rfl _) (.c (.rfl _) .n))) (by rfl) rfl ?_)))
   refine Ch.callP (g3) (by exact gdT rfl rfl) (EvL.cons rfl (EvL.cons rfl EvL.nil)) ((by exact (And.intro (.rfl _) (And.intro .nil trivial)))) (by rfl) rfl ?_
   refine Ch.pup (by exact gdT rfl rfl) (by repeat (first | exact EvP.nil | (apply EvP.cons; exact rfl))) (OpS.slice1 (ys := [inT v a p, inT w b q, in0T].map sA) rfl rfl rfl rfl rfl rfl (by rfl) rfl (by rfl)) rfl ?_
   refine Ch.callP (hcl hco) (gdT rfl rfl) (.cons rfl .nil) (.c (.rfl _) .n) (by rfl) rfl ?_
   refine Ch.p2 rfl rfl (OpS.pickT) rfl (Ch.asg rfl rfl (Ch.nil ?_))
   exact WP.ret (Ret.one rfl (.of_eq rfl) trivial hnA)
  ·
   have hs := hq
   refine WP.rs hG (Ch.mv rfl rfl (Ch.mv rfl rfl (Ch.p2 rfl rfl (OpS.strEqB (c := false) (decide_eq_false hs.1)) rfl (Ch.mv rfl rfl (Ch.p2 rfl rfl (OpS.boolEql rfl) rfl (Ch.mv rfl rfl (Ch.gm rfl rfl rfl rfl (Ch.callP (f3) (gdT rfl rfl) .nil .n (by rfl) rfl ?_))))))))
   refine Ch.g2 rfl rfl rfl rfl (OpS.strNeB (c := false) (by rw [decide_eq_true hs.2]; rfl)) rfl ?_
   refine Ch.p2 rfl rfl (OpS.pickT) rfl (Ch.mv rfl rfl (Ch.skU (gdF rfl rfl rfl) rfl (Ch.skU (gdF rfl rfl rfl) rfl (Ch.skU (gdF rfl rfl rfl) rfl (Ch.p2 rfl rfl (OpS.pickF) rfl (Ch.nil (WP.cond_false rfl (WP.skip (WP.seq ?_)))))))))
   refine WP.rs hG (Ch.mv rfl rfl (Ch.mv rfl rfl (Ch.skU (gdF rfl rfl rfl) rfl (Ch.skU (gdF rfl rfl rfl) rfl (Ch.skU (gdF rfl rfl rfl) rfl (Ch.p2 rfl rfl (OpS.pickF) rfl (Ch.mv rfl rfl (Ch.gm rfl rfl rfl rfl (Ch.g1 rfl rfl rfl (OpS.lenS rfl) rfl ?_)))))))))
   refine Ch.g2 rfl rfl rfl rfl (OpS.neqF (by rw [k1]; rfl)) rfl ?_
   refine Ch.p2 rfl rfl (OpS.pickF) rfl (Ch.nil (WP.cond_false rfl (WP.skip (WP.rs hG (Ch.mv rfl rfl (Ch.mv rfl rfl (Ch.gm rfl rfl rfl rfl (Ch.gm rfl rfl rfl rfl (Ch.gm rfl rfl rfl rfl ?_)))))))))
   refine Ch.callP (g1) (gdT rfl rfl) (.cons rfl (.cons rfl (.cons rfl .nil))) (.c (.rfl _) (.c (.rfl _) (.c (.rfl _) .n))) (by rfl) rfl ?_
   refine Ch.gm rfl rfl rfl rfl (Ch.gm rfl rfl rfl rfl (Ch.gm rfl rfl rfl rfl (Ch.callP (g2) (gdT rfl rfl) (.cons rfl (.cons rfl (.cons rfl .nil))) (.c (.rfl _) (.c (.rfl _) (.c (.rfl _) .n))) (by rfl) rfl ?_)))
   refine Ch.callP (g3) (by exact gdT rfl rfl) (EvL.cons rfl (EvL.cons rfl EvL.nil)) ((by exact (And.intro (.rfl _) (And.intro .nil trivial)))) (by rfl) rfl ?_
   refine Ch.pup (by exact gdT rfl rfl) (by repeat (first | exact EvP.nil | (apply EvP.cons; exact rfl))) (OpS.slice1 (ys := [inT v a p, inT w b q, in0T].map sA) rfl rfl rfl rfl rfl rfl (by rfl) rfl (by rfl)) rfl ?_
   refine Ch.callP (hcl hco) (gdT rfl rfl) (.cons rfl .nil) (.c (.rfl _) .n) (by rfl) rfl ?_
   refine Ch.p2 rfl rfl (OpS.pickT) rfl (Ch.asg rfl rfl (Ch.nil ?_))
   exact WP.ret (Ret.one rfl (.of_eq rfl) trivial hnA)
  ·
   have hs := hq
   refine WP.rs hG (Ch.mv rfl rfl (Ch.mv rfl rfl (Ch.p2 rfl rfl (OpS.strEqB (c := true) (decide_eq_true hs)) rfl (Ch.mv rfl rfl (Ch.p2 rfl rfl (OpS.boolEql rfl) rfl (Ch.mv rfl rfl (Ch.skU (gdF rfl rfl rfl) rfl (Ch.skU (gdF rfl rfl rfl) rfl (Ch.skU (gdF rfl rfl rfl) rfl ?_)))))))))
   refine Ch.p2 rfl rfl (OpS.pickF) rfl (Ch.mv rfl rfl (Ch.skU (gdF rfl rfl rfl) rfl (Ch.skU (gdF rfl rfl rfl) rfl (Ch.skU (gdF rfl rfl rfl) rfl (Ch.p2 rfl rfl (OpS.pickF) rfl (Ch.nil (WP.cond_false rfl (WP.skip (WP.seq ?_)))))))))
   refine WP.rs hG (Ch.mv rfl rfl (Ch.mv rfl rfl (Ch.skU (gdF rfl rfl rfl) rfl (Ch.skU (gdF rfl rfl rfl) rfl (Ch.skU (gdF rfl rfl rfl) rfl (Ch.p2 rfl rfl (OpS.pickF) rfl (Ch.mv rfl rfl (Ch.gm rfl rfl rfl rfl (Ch.g1 rfl rfl rfl (OpS.lenS rfl) rfl ?_)))))))))
   refine Ch.g2 rfl rfl rfl rfl (OpS.neqF (by rw [k1]; rfl)) rfl ?_
   refine Ch.p2 rfl rfl (OpS.pickF) rfl (Ch.nil (WP.cond_false rfl (WP.skip (WP.rs hG (Ch.mv rfl rfl (Ch.mv rfl rfl (Ch.gm rfl rfl rfl rfl (Ch.gm rfl rfl rfl rfl (Ch.gm rfl rfl rfl rfl ?_)))))))))
   refine Ch.callP (g1) (gdT rfl rfl) (.cons rfl (.cons rfl (.cons rfl .nil))) (.c (.rfl _) (.c (.rfl _) (.c (.rfl _) .n))) (by rfl) rfl ?_
   refine Ch.gm rfl rfl rfl rfl (Ch.gm rfl rfl rfl rfl (Ch.gm rfl rfl rfl rfl (Ch.callP (g2) (gdT rfl rfl) (.cons rfl (.cons rfl (.cons rfl .nil))) (.c (.rfl _) (.c (.rfl _) (.c (.rfl _) .n))) (by rfl) rfl ?_)))
   refine Ch.callP (g3) (by exact gdT rfl rfl) (EvL.cons rfl (EvL.cons rfl EvL.nil)) ((by exact (And.intro (.rfl _) (And.intro .nil trivial)))) (by rfl) rfl ?_
   refine Ch.pup (by exact gdT rfl rfl) (by repeat (first | exact EvP.nil | (apply EvP.cons; exact rfl))) (OpS.slice1 (ys := [inT v a p, inT w b q, in0T].map sA) rfl rfl rfl rfl rfl rfl (by rfl) rfl (by rfl)) rfl ?_
   refine Ch.callP (hcl hco) (gdT rfl rfl) (.cons rfl .nil) (.c (.rfl _) .n) (by rfl) rfl ?_
   refine Ch.p2 rfl rfl (OpS.pickT) rfl (Ch.asg rfl rfl (Ch.nil ?_))
   exact WP.ret (Ret.one rfl (.of_eq rfl) trivial hnA)
end
end Go.Proofs.YtpnbpcopdckgpaaGreatDoor.E
end
section
namespace Go.Proofs.YtpnbpcopdckgpaaGreatDoor.V
open Go Go.RowKit

theorem laid_var {P : Program} {W : World} {name : String} {k : IntKind} {zs : List Int} {g : Nat} {t e : TypeId} {n : Nat}
  (hg : P.globalNamed name = some g) (hty : (P.globals[g]?).map (·.type) = some t) (ht : P.underlying t = some (.array n e)) (he : P.underlying e = some (.int k)) (hce : P.cellsOf e = 1) (hct : P.cellsOf t = n) :
  ∀ (laid : List (String × DataW Unit)) (ps : List MemPlace), DataW.LaidVars P W laid ps → (name, Lib.tabData k zs) ∈ laid →
   W.var? P name = some (zs.map fun z => Value.int k z).toArray ∧ ∀ i, i < zs.length → MemPlace.cell g i ∈ ps := by
 intro laid
 induction laid with
 | nil => intro ps _ h; cases h
 | cons x r ih =>
  intro ps hl hm
  obtain ⟨g', t', cs, fuel, p, q, hg', ht', hvar, hd, hr, rfl⟩ := hl
  rcases List.mem_cons.1 hm with rfl | hm
  ·
   obtain rfl := Option.some.inj (hg.symm.trans hg')
   obtain rfl := Option.some.inj (hty.symm.trans ht')
   have hcs := Lib.cells_of_tab ht he hce hct hd
   refine ⟨by rw [hvar, ← hcs], fun i hi => ?_⟩
   have hsz : cs.size = zs.length := by rw [← Array.length_toList, hcs, List.length_map]
   refine List.mem_append_left _ (List.mem_append_left _ ?_)
   simpa [MemPlace.row, hsz] using hi
  ·
   obtain ⟨h1, h2⟩ := ih q hr hm
   exact ⟨h1, fun i hi => List.mem_append_right _ (h2 i hi)⟩

theorem laid_tab {P : Program} {W : World} {laid : List (String × DataW Unit)} (h : laidMetH P laid W) {name : String} {k : IntKind} {zs : List Int} {g : Nat} {t e : TypeId} {n : Nat}
  (hm : (name, Lib.tabData k zs) ∈ laid) (h0 : 0 < zs.length)
  (hg : P.globalNamed name = some g) (hty : (P.globals[g]?).map (·.type) = some t) (ht : P.underlying t = some (.array n e)) (he : P.underlying e = some (.int k)) (hce : P.cellsOf e = 1) (hct : P.cellsOf t = n) :
  ∃ T, W.heap[g]? = some (.cells (zs.map fun z => Value.int k z).toArray T (0, 0)) := by
 obtain ⟨⟨ps, hv, _, hr⟩, _⟩ := laidMetH_iff.1 h
 obtain ⟨h1, h2⟩ := laid_var hg hty ht he hce hct _ ps hv (List.mem_filter.2 ⟨hm, rfl⟩)
 obtain ⟨⟨c, T, hc⟩, _⟩ := hr g 0 (h2 0 h0)
 refine ⟨T, ?_⟩
 rw [hc]
 have : W.var? P name = some c := by simp [World.var?, hg, hc]
 rw [h1] at this
 injection this with this
 rw [this]
end Go.Proofs.YtpnbpcopdckgpaaGreatDoor.V
end
section
namespace Go.Proofs.YtpnbpcopdckgpaaGreatDoor.V
open Go Go.RowKit
def bulkL (ps : List (List UInt8)) : Nat := (ps.map (·.length + 1)).sum
end Go.Proofs.YtpnbpcopdckgpaaGreatDoor.V
end
section
namespace Go.Proofs.YtpnbpcopdckgpaaGreatDoor.V
open Go Go.RowKit Go.WideShapes Go.ChangeShapes Go.ChangeAt

theorem own : ownKnob Tryz.prog.godebug = none := by kernel_rfl
theorem laidOut : laidOutB Tryz.prog = true := by kernel_rfl

theorem k_data : (Rows.laid_voussoir_sha_k : DataW Unit) = Lib.tabData .u32 (kTab.map U32) := by kernel_rfl
theorem first_data : (Rows.laid_voussoir_sha_first : DataW Unit) = Lib.tabData .u32 (first.words.map U32) := by kernel_rfl
theorem k_global : Tryz.prog.globalNamed "voussoir/sha.k" = some 1 := by kernel_rfl
theorem first_global : Tryz.prog.globalNamed "voussoir/sha.first" = some 0 := by kernel_rfl

def kCells : Array Value := (kTab.map wv).toArray
def layK : Obj → Obj
 | .cells _ t frozen => .cells kCells t frozen
 | o => o
def layFirst : Obj → Obj
 | .cells _ t frozen => .cells first.cells t frozen
 | o => o
noncomputable def laidWorld (os : Os) : World :=
 { World.holding Tryz.prog os ⟨#[], #[], []⟩ with heap := ((World.holding Tryz.prog os ⟨#[], #[], []⟩).heap.modify 1 layK).modify 0 layFirst }

section
variable {H : Type} {enc : TypeId × Value → H} {P : Program}
theorem post_of_below {f : Func} {s : ChangeSpec} {apart fresh handsOn again : Bool} {W W' : World} {args : Array Value} {v : Value} {ds gs : List (DataW H)} {before pa pv : List MemPlace}
  (hW : DataW.Whole enc P f.params.toList s.vars apart W args.toList ds gs before)
  (hres : ∀ (b : Nat) (sp : Nat → Bool) (hd : Bool), DataW.TrodAll enc P W' b sp hd f.resultTypes.toList (v.resultList f.resultTypes.size) (s.fn H (ds ++ gs)).results [])
  (hargs : ∀ sp : Nat → Bool, (∀ p ∈ before, sp p.block = true) → DataW.TrodAll enc P W' 0 sp true f.params.toList args.toList (s.fn H (ds ++ gs)).args pa)
  (hvars : ∀ sp : Nat → Bool, (∀ p ∈ before, sp p.block = true) → DataW.TrodVars enc P W' sp s.vars (s.fn H (ds ++ gs)).vars pv)
  (hps : before = pa ++ pv) (hb : Below W.heap.size W W')
  (hok : ∀ (j : Nat) (t : TypeId) (r : Value), f.resultTypes[j]? = some t → (v.resultList f.resultTypes.size)[j]? = some r → Value.okWide P W' .any 0 t r) :
  s.post enc P f apart fresh handsOn again W args v W' := by
 have hlt : ∀ p ∈ before, p.block < W.heap.size := fun p hp => hW.lt p hp
 have hold : ∀ p ∈ before, (fun b => decide (b < W.heap.size)) p.block = true := fun p hp => by simpa using hlt p hp
 refine ⟨ds, gs, before, [], pa, pv, hW, hres _ _ _, hargs _ hold, hvars _ hold, World.keptBut_mono (fun p hp => ⟨hp, ?_⟩) (hb.frame (· ∈ before)), fun _ => ?_⟩
 ·
  rw [hps, List.mem_append] at hp
  exact Or.inr hp
 ·
  obtain ⟨_, _, _, _, _, hz, hn⟩ := hW
  refine ⟨hok, _, _, ([] ++ pa) ++ pv, ⟨[] ++ pa, pv, trodAll_append (hargs _ (fun _ _ => rfl)) (hres _ _ _), hvars _ (fun _ _ => rfl), rfl, ?_, ?_⟩, ?_⟩
  ·
   intro b off hp
   have hin : MemPlace.cell b off ∈ before := by rw [hps]; simpa using hp
   rw [hb.frozen (hlt _ hin)]
   exact hz b off hin
  ·
   intro ha
   have := hn ha
   rw [hps] at this
   simpa using this
  ·
   intro p hp _
   rw [hps]
   simpa using hp
end

theorem stays {H : Type} {enc : TypeId × Value → H} {W W' : World} {t : TypeId} {v : Value} {d : DataW H} {ps : List MemPlace} (hr : Tryz.prog.readableRec t = true) (hrow : t < Tryz.prog.types.size)
  (h : DataW.Trod enc Tryz.prog W 0 (fun _ => true) true t v d ps) (hb : Below W.heap.size W W') (hlt : ∀ x ∈ ps, x.block < W.heap.size) (sp : Nat → Bool) (hsp : ∀ x ∈ ps, sp x.block = true) :
  DataW.Trod enc Tryz.prog W' 0 sp true t v d ps := WideElems.Trod_stays laidOut hr hrow h (fun x hx => hb.same (hlt x hx)) hsp

end Go.Proofs.YtpnbpcopdckgpaaGreatDoor.V
end
section
namespace Go.Proofs.YtpnbpcopdckgpaaGreatDoor.E
open Go Go.RowKit Go.WideShapes Go.ChangeShapes Go.ChangeAt Go.Proofs.YtpnbpcopdckgpaaGreatDoor.V

def tabB : List (Nat × Array Value) := [(3, kArr), (1, kArr), (0, first.cells)]
def tabR : List (Nat × Array Value) := (2, first.cells) :: tabB
def RB (w : World) : Prop := ∀ x ∈ tabB, ∃ T, w.heap[x.1]? = some (.cells x.2 T (0, 0))
def RT (w : World) : Prop := ∀ x ∈ tabR, ∃ T, w.heap[x.1]? = some (.cells x.2 T (0, 0))
theorem shaInR : ShaIn tabR := ⟨by simp [tabR, tabB], by simp [tabR, tabB]⟩
theorem kInR : (3, kArr) ∈ tabR := by simp [tabR, tabB]
theorem fInR : (2, first.cells) ∈ tabR := by simp [tabR]
theorem rk_data : (Rows.laid_voussoir_voussoirref01_k : DataW Unit) = Lib.tabData .u32 (kTab.map U32) := by kernel_rfl
theorem rfirst_data : (Rows.laid_voussoir_voussoirref01_first : DataW Unit) = Lib.tabData .u32 (first.words.map U32) := by kernel_rfl
theorem rk_global : Tryz.prog.globalNamed "voussoir/voussoirref01.k" = some 3 := by kernel_rfl
theorem rfirst_global : Tryz.prog.globalNamed "voussoir/voussoirref01.first" = some 2 := by kernel_rfl
theorem kmap : ((kTab.map U32).map fun z => Value.int .u32 z).toArray = kArr := by rw [List.map_map]; rfl

theorem tabB_of {W : World} {laid : List (String × DataW Unit)} (h : laidMetH Tryz.prog laid W) (h1 : ("voussoir/sha.k", Rows.laid_voussoir_sha_k) ∈ laid) (h2 : ("voussoir/sha.first", Rows.laid_voussoir_sha_first) ∈ laid)
  (h3 : ("voussoir/voussoirref01.k", Rows.laid_voussoir_voussoirref01_k) ∈ laid) : RB W := by
 rw [k_data] at h1
 rw [first_data] at h2
 rw [rk_data] at h3
 obtain ⟨T1, hk⟩ := laid_tab h h1 (by decide) k_global (t := 169) (by kernel_rfl) Tryz.underlying169 Tryz.underlying120 (by kernel_rfl) (by kernel_rfl)
 obtain ⟨T2, hf⟩ := laid_tab h h2 (by decide) first_global (t := 122) (by kernel_rfl) Tryz.underlying122 Tryz.underlying120 (by kernel_rfl) (by kernel_rfl)
 obtain ⟨T3, hk'⟩ := laid_tab h h3 (by decide) rk_global (t := 169) (by kernel_rfl) Tryz.underlying169 Tryz.underlying120 (by kernel_rfl) (by kernel_rfl)
 rw [kmap] at hk hk'
 intro x hx
 simp only [tabB, List.mem_cons, List.not_mem_nil, or_false] at hx
 rcases hx with rfl | rfl | rfl
 · exact ⟨T3, hk'⟩
 · exact ⟨T1, hk⟩
 · exact ⟨T2, hf⟩
theorem tabR_of {W : World} {laid : List (String × DataW Unit)} (h : laidMetH Tryz.prog laid W) (h1 : ("voussoir/sha.k", Rows.laid_voussoir_sha_k) ∈ laid) (h2 : ("voussoir/sha.first", Rows.laid_voussoir_sha_first) ∈ laid)
  (h3 : ("voussoir/voussoirref01.k", Rows.laid_voussoir_voussoirref01_k) ∈ laid) (h4 : ("voussoir/voussoirref01.first", Rows.laid_voussoir_voussoirref01_first) ∈ laid) : RT W := by
 rw [rfirst_data] at h4
 obtain ⟨T4, hf'⟩ := laid_tab h h4 (by decide) rfirst_global (t := 121) (by kernel_rfl) Tryz.underlying121 Tryz.underlying120 (by kernel_rfl) (by kernel_rfl)
 intro x hx
 rcases List.mem_cons.1 hx with rfl | hx
 · exact ⟨T4, hf'⟩
 · exact tabB_of h h1 h2 h3 x hx

noncomputable def laidWorldR (os : Os) : World :=
 { laidWorld os with heap := ((laidWorld os).heap.modify 3 layK).modify 2 layFirst }

end Go.Proofs.YtpnbpcopdckgpaaGreatDoor.E
end
section
namespace Go.Proofs.YtpnbpcopdckgpaaGreatDoor.E
open Go Go.RowKit Go.WideShapes Go.ChangeShapes Go.ChangeAt Go.Proofs.YtpnbpcopdckgpaaGreatDoor.V
def tabS : List (Nat × Array Value) := [(1, kArr), (0, first.cells)]
def SB (w : World) : Prop := ∀ x ∈ tabS, ∃ T, w.heap[x.1]? = some (.cells x.2 T (0, 0))
inductive Args (w : World) : List AV → List Value → Prop
 | nil : Args w [] []
 | cons {c : AV} {x : Value} {cs : List AV} {xs : List Value} (h : VRel (allN w) noE w c x) (r : Args w cs xs) : Args w (c :: cs) (x :: xs)
theorem Args.get {w : World} : ∀ {cs : List AV} {xs : List Value}, Args w cs xs → cs.length = xs.length ∧ ∀ (i : Nat) (c : AV) (x : Value), cs[i]? = some c → xs[i]? = some x → VRel (allN w) noE w c x
 | _, _, .nil => ⟨rfl, fun i c x hc => by simp at hc⟩
 | _, _, .cons h r => by
  obtain ⟨k1, k2⟩ := r.get
  refine ⟨by simp [k1], fun i c x hc hx => ?_⟩
  cases i with
  | zero => cases hc; cases hx; exact h
  | succ i => exact k2 i c x hc hx
theorem FC.callsA {P : Program} {G : List (Nat × Array Value)} {f : FuncId} {args : List AV} {r : Value} (F : FC P G f args [] (.v r) []) {w : World} (hT : ∀ x ∈ G, ∃ T, w.heap[x.1]? = some (.cells x.2 T (0, 0))) {xs : List Value} (h : Args w args xs) :
  Calls P f xs.toArray w fun e w' => e = .returned r ∧ Fr [] w w' :=
 F.calls w hT xs.toArray (by simp [h.get.1]) fun i c x hc hx => h.get.2 i c x hc (by simpa using hx)
theorem Strs.len {w : World} {v : Value} {ps : List (List UInt8)} (h : Strs w v ps) : (ps.length : Int) ≤ 9223372036854775807 := by
 obtain ⟨a, cap, _, h1, h2, _⟩ := h
 unfold maxLen at h2
 omega
end Go.Proofs.YtpnbpcopdckgpaaGreatDoor.E
end
