import Derived.Shelf.Strings.Builder1
import Derived.Shelf.Strings.Builder2
import Derived.Shelf.Strings.BuilderF
import Derived.Shelf.Strings.Prefix
import Derived.Shelf.Bits.Mul64
import Derived.Shelf.Strings.Repeat
import Derived.Test.YtpnbpcopdckgpaaGreatDoorProg
import Derived.Test.YtpnbpcopdckgpaaGreatDoorZ421b1b36
import Derived.Test.YtpnbpcopdckgpaaGreatDoorZfd707a12
namespace Go.Proofs
open Go.Shelf Go.RowKit Go.Lib
def Tryz.lays105_ren : Go.Shelf.Ren := ⟨fun | 105 => 57 | 212 => 83 | 99 => 84 | 165 => 85 | 166 => 86 | 170 => 87 | 169 => 88 | 263 => 124 | 264 => 125 | 206 => 126 | 240 => 127 | 241 => 128 | 276 => 157 | 277 => 158 | n => n, fun | 9 => 9 | 3 => 3 | 4 => 4 | 20 => 20 | 0 => 0 | 46 => 71 | 109 => 143 | 5 => 5 | 72 => 148 | 76 => 151 | 51 => 120 | 146 => 186 | 53 => 22 | 148 => 188 | 70 => 146 | 37 => 70 | 75 => 150 | 127 => 190 | 164 => 210 | 80 => 25 | n => n, fun | n => n⟩
theorem Tryz.lays105 : Go.Proofs.Lays.n105 Tryz.prog Tryz.lays105_ren := {
 mixed := by kernel_rfl
 f99 := Tryz.func84.trans (congrArg some (by kernel_rfl))
 f105 := Tryz.func57.trans (congrArg some (by kernel_rfl))
 f165 := Tryz.func85.trans (congrArg some (by kernel_rfl))
 f166 := Tryz.func86.trans (congrArg some (by kernel_rfl))
 f169 := Tryz.func88.trans (congrArg some (by kernel_rfl))
 f170 := Tryz.func87.trans (congrArg some (by kernel_rfl))
 f206 := Tryz.func126.trans (congrArg some (by kernel_rfl))
 f212 := Tryz.func83.trans (congrArg some (by kernel_rfl))
 f240 := Tryz.func127.trans (congrArg some (by kernel_rfl))
 f241 := Tryz.func128.trans (congrArg some (by kernel_rfl))
 f263 := Tryz.func124.trans (congrArg some (by kernel_rfl))
 f264 := Tryz.func125.trans (congrArg some (by kernel_rfl))
 f276 := Tryz.func157.trans (congrArg some (by kernel_rfl))
 f277 := Tryz.func158.trans (congrArg some (by kernel_rfl))
 t0 := Tryz.underlying0
 a0 := Tryz.isAgg0
 z0 := Tryz.sizeOf0
 v0 := Tryz.zeroValue0
 t3 := Tryz.underlying3
 a3 := Tryz.isAgg3
 z3 := Tryz.sizeOf3
 v3 := Tryz.zeroValue3
 t4 := Tryz.underlying4
 a4 := Tryz.isAgg4
 z4 := Tryz.sizeOf4
 v4 := Tryz.zeroValue4
 t5 := Tryz.underlying5
 a5 := Tryz.isAgg5
 z5 := Tryz.sizeOf5
 v5 := Tryz.zeroValue5
 t9 := Tryz.underlying9
 a9 := Tryz.isAgg9
 z9 := Tryz.sizeOf9
 v9 := Tryz.zeroValue9
 t20 := Tryz.underlying20
 a20 := Tryz.isAgg20
 z20 := Tryz.sizeOf20
 v20 := Tryz.zeroValue20
 t37 := Tryz.underlying70
 a37 := Tryz.isAgg70
 z37 := Tryz.sizeOf70
 v37 := Tryz.zeroValue70
 t46 := Tryz.underlying71
 a46 := Tryz.isAgg71
 z46 := Tryz.sizeOf71
 v46 := Tryz.zeroValue71
 t51 := Tryz.underlying120
 a51 := Tryz.isAgg120
 z51 := Tryz.sizeOf120
 v51 := Tryz.zeroValue120
 t53 := Tryz.underlying22
 a53 := Tryz.isAgg22
 z53 := Tryz.sizeOf22
 v53 := Tryz.zeroValue22
 t70 := Tryz.underlying146
 a70 := Tryz.isAgg146
 z70 := Tryz.sizeOf146
 v70 := Tryz.zeroValue146
 t72 := Tryz.underlying148
 a72 := Tryz.isAgg148
 z72 := Tryz.sizeOf148
 v72 := Tryz.zeroValue148
 t75 := Tryz.underlying150
 a75 := Tryz.isAgg150
 z75 := Tryz.sizeOf150
 v75 := Tryz.zeroValue150
 t76 := Tryz.underlying151
 a76 := Tryz.isAgg151
 z76 := Tryz.sizeOf151
 v76 := Tryz.zeroValue151
 t109 := Tryz.underlying143
 a109 := Tryz.isAgg143
 z109 := Tryz.sizeOf143
 v109 := Tryz.zeroValue143
 t127 := Tryz.underlying190
 a127 := Tryz.isAgg190
 z127 := Tryz.sizeOf190
 v127 := Tryz.zeroValue190
 t146 := Tryz.underlying186
 a146 := Tryz.isAgg186
 z146 := Tryz.sizeOf186
 v146 := Tryz.zeroValue186
 t148 := Tryz.underlying188
 a148 := Tryz.isAgg188
 z148 := Tryz.sizeOf188
 v148 := Tryz.zeroValue188
 t164 := Tryz.underlying210
 a164 := Tryz.isAgg210
 z164 := Tryz.sizeOf210
 v164 := Tryz.zeroValue210 }
theorem Tryz.Builder_Extra_105 : Builder.Extra Tryz.prog Tryz.lays105_ren := {
 sizeBuilder := by kernel_rfl
 liesBuilder := by kernel_rfl
 t5 := Tryz.underlying5
 a5 := Tryz.isAgg5
 z5 := Tryz.sizeOf5
 v5 := Tryz.zeroValue5
 infoByte := by kernel_rfl
 cellsByte := by kernel_rfl
 sizeByte := by kernel_rfl
 neB5 := by decide }
theorem Tryz.strings_Repeat (s : ByteArray) (c : Nat) (w : World) (hc : c ≤ 9223372036854775807) (hlen : s.size * c ≤ 140737488355328) :
  Calls Tryz.prog 57 #[.string s, .int .i64 c] w fun e w' => e = .returned (.string ⟨(Lib.repeatL s.data.toList c).toArray⟩) ∧ Below w.heap.size w w' := Any.strings_Repeat Tryz.lays105 Tryz.Builder_Extra_105 s c w hc hlen
end Go.Proofs
namespace Go.Proofs.YtpnbpcopdckgpaaGreatDoor.E
open Go Go.RowKit V
set_option maxRecDepth 4000
theorem repeatL_0 : ∀ n, Lib.repeatL [(0 : UInt8)] n = List.replicate n 0
 | 0 => rfl
 | n + 1 => by rw [List.replicate_succ, ← repeatL_0 n]; rfl
section
variable {G : List (Nat × Array Value)}
theorem repeat_fc (n : Nat) (hn : n ≤ 1000) : FC Tryz.prog G 57 [sA [0], .v (.int .i64 (n : Int))] [] (sA (List.replicate n 0)) [] :=
 FC.of_calls Tryz.func57 rfl rfl ⟨trivial, trivial, trivial⟩ fun A vs hG HS hsz h => by
  have h0 := (h 0 _ _ rfl (Array.getElem?_eq_getElem (by rw [hsz]; exact Nat.zero_lt_succ _))).raw
  have h1 := (h 1 _ _ rfl (Array.getElem?_eq_getElem (by rw [hsz]; exact Nat.le_refl _))).raw
  obtain rfl : vs = #[.string (B [0]), .int .i64 (n : Int)] := by
   apply Array.ext (by rw [hsz]; rfl)
   intro i hi hi2
   match i, hi, hi2 with
   | 0, _, _ => exact h0
   | 1, _, _ => exact h1
  refine (Tryz.strings_Repeat (B [0]) n A.w (by omega) (by show 1 * n ≤ _; omega)).mono fun e w' ⟨he, hb⟩ => ⟨?_, hb.os, hb.tape, hb.output, hb.size, fun k hk _ => hb.block k hk⟩
  rw [he, show (B [0]).data.toList = [0] from rfl, repeatL_0]
  rfl
end
end Go.Proofs.YtpnbpcopdckgpaaGreatDoor.E
section
namespace Go.Proofs.YtpnbpcopdckgpaaGreatDoor.E
open Go Go.RowKit Go.Proofs.YtpnbpcopdckgpaaGreatDoor.V
set_option maxRecDepth 4000
section
variable {G : List (Nat × Array Value)}
theorem layJ_form (c : UInt64) (s : List UInt8) (n : Nat) (hn : n = 236 - s.length) : beS c 8 ++ beS (UInt64.ofNat s.length) 4 ++ s ++ List.replicate n 0 ++ beS c 8 = layJ c s := by subst hn; rfl
theorem jlay_fc (c : UInt64) (s : List UInt8) (hs' : s.length ≤ 200) : FC Tryz.prog G 117 [.v (.int .u64 (U64 c)), sA s] [] (sA (layJ c s)) [] := by
 have hw1 := wNum_fc (G := G) [] c (by decide)
 have hw2 := wText_fc (G := G) (beS c 8) s (by rw [beS_length]; omega) (by omega)
 have hb := wBytes_fc (G := G) (beS c 8 ++ beS (UInt64.ofNat s.length) 4 ++ s)
 have hb2 := wBytes_fc (G := G) (beS c 8)
 have hlen : (beS c 8 ++ beS (UInt64.ofNat s.length) 4 ++ s).length = 12 + s.length := by simp only [List.length_append, beS_length]
 obtain ⟨n, hn⟩ : ∃ n, n = 236 - s.length := ⟨_, rfl⟩
 have hrep := repeat_fc (G := G) n (by omega)
 have hlay := layJ_form c s n hn
 have hl2 : (List.replicate n (0 : UInt8)).length = n := List.length_replicate
 have hl3 := beS_length c 8
 refine FC.of_wp [4] Tryz.func117 rfl rfl rfl rfl (by trivial) (by trivial) (Nat.le_of_ble_eq_true rfl) ?_
 intro A hG hnA hAB
 unfold start
 refine WP.rs hG (Ch.asg rfl rfl (Ch.nil (WP.rs hG ?_)))
 refine Ch.cH (newWriter_fc) [] 0 gdN .nil .n rfl (by refine ⟨?_, ?_, ?_, ?_⟩ <;> first | ((conv => lhs; simp only [nrmA, Nat.reduceAdd]); all_goals rfl) | rfl) (by exact trivial) (by exact ⟨rfl, rfl, trivial⟩) rfl ?_
 refine Ch.cH (newWriter_fc) [] 2 gdN .nil .n rfl (by refine ⟨?_, ?_, ?_, ?_⟩ <;> first | ((conv => lhs; simp only [nrmA, Nat.reduceAdd]); all_goals rfl) | rfl) (by exact trivial) (by exact ⟨rfl, rfl, trivial⟩) rfl ?_
 refine Ch.asg rfl rfl (Ch.asg rfl rfl (Ch.nil (WP.rs hG (Ch.mv rfl rfl (Ch.mv rfl rfl ?_)))))
 refine Ch.cH (hw1) [0,1] 4 gdN (.cons rfl (.cons rfl .nil)) (.c (.rfl _) (.c (.rfl _) .n)) rfl (by refine ⟨?_, ?_, ?_, ?_⟩ <;> first | ((conv => lhs; simp only [nrmA, Nat.reduceAdd]); all_goals rfl) | rfl) (by exact ⟨rfl, rfl, trivial⟩) (by exact ⟨rfl, trivial⟩) rfl ?_
 refine Ch.nil (WP.rs hG (Ch.mv rfl rfl (Ch.mv rfl rfl ?_)))
 refine Ch.cH (hw2) [0,4] 5 gdN (.cons rfl (.cons rfl .nil)) (.c (.rfl _) (.c (.rfl _) .n)) rfl (by refine ⟨?_, ?_, ?_, ?_⟩ <;> first | ((conv => lhs; simp only [nrmA, Nat.reduceAdd]); all_goals rfl) | rfl) (by exact ⟨rfl, rfl, trivial⟩) (by exact ⟨rfl, rfl, trivial⟩) rfl ?_
 refine Ch.nil (WP.rs hG (Ch.mv rfl rfl (Ch.mv rfl rfl ?_)))
 refine Ch.cH (hw1) [2,3] 7 gdN (.cons rfl (.cons rfl .nil)) (.c (.rfl _) (.c (.rfl _) .n)) rfl (by refine ⟨?_, ?_, ?_, ?_⟩ <;> first | ((conv => lhs; simp only [nrmA, Nat.reduceAdd]); all_goals rfl) | rfl) (by exact ⟨rfl, rfl, trivial⟩) (by exact ⟨rfl, trivial⟩) rfl ?_
 refine Ch.nil (WP.rs hG (Ch.mv rfl rfl ?_))
 refine Ch.cH (hb) [0,6] 8 gdN (.cons rfl .nil) (.c (.rfl _) .n) rfl (by refine ⟨?_, ?_, ?_, ?_⟩ <;> first | ((conv => lhs; simp only [nrmA, Nat.reduceAdd]); all_goals rfl) | rfl) (by exact ⟨rfl, rfl, trivial⟩) (by exact trivial) rfl ?_
 refine Ch.asg rfl rfl (Ch.nil (WP.rs hG (Ch.mv rfl rfl (Ch.mv rfl rfl (Ch.p1 rfl (OpS.lenS rfl) rfl (Ch.p2 rfl rfl (OpS.int (v' := .int .i64 (n : Int)) rfl (by rw [wr64 (by omega)]; exact congrArg (Value.int .i64) (by omega))) rfl ?_))))))
 refine Ch.callP (hrep) gdN (.cons rfl (.cons rfl .nil)) (.c (.rfl _) (.c (.rfl _) .n)) (by rfl) rfl ?_
 refine Ch.p2 rfl rfl (OpS.strAdd (by simp only [List.length_append]; simp only [List.length_append] at hlen; omega)) rfl ?_
 refine Ch.mv rfl rfl ?_
 refine Ch.cH (hb2) [2,7] 8 gdN (.cons rfl .nil) (.c (.rfl _) .n) rfl (by refine ⟨?_, ?_, ?_, ?_⟩ <;> first | ((conv => lhs; simp only [nrmA, Nat.reduceAdd]); all_goals rfl) | rfl) (by exact ⟨rfl, rfl, trivial⟩) (by exact trivial) rfl ?_
 refine Ch.p2 rfl rfl (OpS.strAdd (by simp only [List.length_append]; simp only [List.length_append] at hlen; omega)) rfl ?_
 refine Ch.asg rfl rfl (Ch.nil ?_)
 exact WP.ret (Ret.one rfl (.of_eq (by rw [← hlay]; rfl)) trivial hnA)
theorem takeJ_big {n : Nat} {b : List UInt8} {m : Nat} (hm : (valU ((b.drop 8).take 4)).toNat = m) (h : 200 < m) : takeJ n b = (valU (b.take 8), [], false) := by
 unfold takeJ; rw [hm, if_pos h]
theorem takeJ_fit {n : Nat} {b : List UInt8} {m : Nat} (hm : (valU ((b.drop 8).take 4)).toNat = m) (h : m ≤ 200) :
  takeJ n b = (valU (b.take 8), (b.drop 12).take m, decide (1 ≤ (valU (b.take 8)).toNat ∧ (valU (b.take 8)).toNat % 2 = n ∧ layJ (valU (b.take 8)) ((b.drop 12).take m) = b)) := by
 unfold takeJ; rw [hm, if_neg (by omega)]
theorem takeJ_low {n : Nat} {b : List UInt8} {m : Nat} (hm : (valU ((b.drop 8).take 4)).toNat = m) (h : m ≤ 200) (hc : (valU (b.take 8)).toNat < 1) : takeJ n b = (valU (b.take 8), (b.drop 12).take m, false) := by
 rw [takeJ_fit hm h, decide_eq_false (fun k => by omega)]
theorem takeJ_odd {n : Nat} {b : List UInt8} {m : Nat} (hm : (valU ((b.drop 8).take 4)).toNat = m) (h : m ≤ 200) (hc : (valU (b.take 8)).toNat % 2 ≠ n) : takeJ n b = (valU (b.take 8), (b.drop 12).take m, false) := by
 rw [takeJ_fit hm h, decide_eq_false (fun k => hc k.2.1)]
theorem takeJ_eq {n : Nat} {b : List UInt8} {m : Nat} (hm : (valU ((b.drop 8).take 4)).toNat = m) (h : m ≤ 200) (h1 : 1 ≤ (valU (b.take 8)).toNat) (hc : (valU (b.take 8)).toNat % 2 = n) :
  takeJ n b = (valU (b.take 8), (b.drop 12).take m, decide (layJ (valU (b.take 8)) ((b.drop 12).take m) = b)) := by
 rw [takeJ_fit hm h]
 simp only [h1, hc, true_and]
theorem take_split (c n : Nat) : c < 1 ∨ (1 ≤ c ∧ c % 2 ≠ n) ∨ (1 ≤ c ∧ c % 2 = n) := by omega
abbrev tkA (x : UInt64 × List UInt8 × Bool) : AV := .tup [.v (.int .u64 (U64 x.1)), sA x.2.1, .v (.bool x.2.2)]
theorem takeB_fc (n : Nat) (b : List UInt8) (m : Nat) (hb : b.length = 256) (hm : (valU ((b.drop 8).take 4)).toNat = m) (hmo : 200 < m) : FC Tryz.prog G 76 [.v (.int .i64 (n : Int)), sA b] [] (tkA (takeJ n b)) [] := by
 rw [takeJ_big hm hmo]
 have hlt : m < 4294967296 := by
  have := valU_lt 4 ((b.drop 8).take 4) (by rw [List.length_take, List.length_drop]; omega) (by decide)
  omega
 have h1 := rNum_fc (G := G) b (by omega) (by omega)
 have h2 := rTextB_fc (G := G) (b.drop 8) m 200 (by rw [List.length_drop]; omega) (by rw [List.length_drop]; omega) hm (by omega) hmo
 have h3 := rBad_fc (G := G) ((b.drop 8).drop 4) true
 refine FC.of_wp [4, 5, 6] Tryz.func76 rfl rfl rfl rfl (by trivial) (by trivial) (Nat.le_of_ble_eq_true rfl) ?_
 intro A hG hnA hAB
 unfold start
 refine WP.rs hG (Ch.asg rfl rfl (Ch.asg rfl rfl (Ch.asg rfl rfl (Ch.nil (WP.rs hG (Ch.mv rfl rfl ?_))))))
 refine Ch.cH (newReader_fc b) [] 0 gdN (.cons rfl .nil) (.c (.rfl _) .n) rfl (by refine ⟨?_, ?_, ?_, ?_⟩ <;> first | ((conv => lhs; simp only [nrmA, Nat.reduceAdd]); all_goals rfl) | rfl) (by exact trivial) (by exact ⟨rfl, trivial⟩) rfl ?_
 refine Ch.asg rfl rfl (Ch.nil (WP.rs hG (Ch.mv rfl rfl ?_)))
 refine Ch.cH (h1) [0] 1 gdN (.cons rfl .nil) (.c (.rfl _) .n) rfl (by refine ⟨?_, ?_, ?_, ?_⟩ <;> first | ((conv => lhs; simp only [nrmA, Nat.reduceAdd]); all_goals rfl) | rfl) (by exact ⟨rfl, trivial⟩) (by exact trivial) rfl ?_
 refine Ch.asg rfl rfl (Ch.nil (WP.rs hG (Ch.mv rfl rfl ?_)))
 refine Ch.cH (h2) [0] 1 gdN (.cons rfl (.cons rfl .nil)) (.c (.rfl _) (.c (.rfl _) .n)) rfl (by refine ⟨?_, ?_, ?_, ?_⟩ <;> first | ((conv => lhs; simp only [nrmA, Nat.reduceAdd]); all_goals rfl) | rfl) (by exact ⟨rfl, trivial⟩) (by exact trivial) rfl ?_
 refine Ch.asg rfl rfl (Ch.nil (WP.rs hG (Ch.mv rfl rfl ?_)))
 refine Ch.cH (h3) [0] 1 gdN (.cons rfl .nil) (.c (.rfl _) .n) rfl (by refine ⟨?_, ?_, ?_, ?_⟩ <;> first | ((conv => lhs; simp only [nrmA, Nat.reduceAdd]); all_goals rfl) | rfl) (by exact ⟨rfl, trivial⟩) (by exact trivial) rfl ?_
 refine Ch.p1 rfl (OpS.not) rfl (Ch.mv rfl rfl (Ch.skU (gdF rfl rfl rfl) rfl (Ch.skU (gdF rfl rfl rfl) rfl (Ch.p2 rfl rfl (OpS.pickF) rfl (Ch.mv rfl rfl (Ch.skU (gdF rfl rfl rfl) rfl (Ch.skU (gdF rfl rfl rfl) rfl (Ch.skU (gdF rfl rfl rfl) rfl (Ch.skU (gdF rfl rfl rfl) rfl ?_)))))))))
 refine Ch.skU (gdF rfl rfl rfl) rfl (Ch.p2 rfl rfl (OpS.pickF) rfl (Ch.asg rfl rfl (Ch.nil (WP.rs hG (Ch.mv rfl rfl (Ch.mv rfl rfl (Ch.mv rfl rfl (Ch.mv rfl rfl (Ch.skU (gdF rfl rfl rfl) rfl ?_)))))))))
 refine Ch.skU (gdF rfl rfl rfl) rfl (Ch.skU (gdF rfl rfl rfl) rfl (Ch.skU (gdF rfl rfl rfl) rfl (Ch.skU (gdF rfl rfl rfl) rfl (Ch.p2 rfl rfl (OpS.pickF) rfl (Ch.asg rfl rfl (Ch.asg rfl rfl (Ch.asg rfl rfl (Ch.nil (WP.ret ?_)))))))))
 refine (Ret.of (rs := [4, 5, 6]) (vs := [.v (.int .u64 (U64 (valU (b.take 8)))), sA [], .v (.bool false)]) (H' := []) (res := .tup [.v (.int .u64 (U64 (valU (b.take 8)))), sA [], .v (.bool false)]) [] ?_ ?_ rfl ?_ (by simp only [List.length_cons, List.length_nil]; decide) ?_).1
 · exact na_of hnA rfl
 · (repeat (first | exact trivial | (refine ⟨⟨(by trivial), _, rfl, .rfl _⟩, ?_⟩)))
 · (repeat (first | exact trivial | refine HFromL.skip ?_ | (refine ⟨⟨(by first | trivial | (simp; first | done | fail) | exact ⟨trivial, hbel _⟩), (by first | rfl | (simp; first | done | fail))⟩, ?_⟩)))
 exact ⟨_, rfl, rfl, by simp [ls, TsOk, List.zip, List.zipWith]⟩
theorem takeG_fc (n : Nat) (b : List UInt8) (m : Nat) (hn : n < 2) (hb : b.length = 256) (hm : (valU ((b.drop 8).take 4)).toNat = m) (hmo : m ≤ 200) : FC Tryz.prog G 76 [.v (.int .i64 (n : Int)), sA b] [] (tkA (takeJ n b)) [] := by
 have h1 := rNum_fc (G := G) b (by omega) (by omega)
 have h2 := rText_fc (G := G) (b.drop 8) m 200 (by rw [List.length_drop]; omega) (by rw [List.length_drop]; omega) hm hmo (by decide) (by rw [List.length_drop]; omega)
 have h3 := rBad_fc (G := G) (((b.drop 8).drop 4).drop m) false
 have h4 := jlay_fc (G := G) (valU (b.take 8)) ((b.drop 12).take m) (by rw [List.length_take]; omega)
 have e12 : ((b.drop 8).drop 4).take m = (b.drop 12).take m := by rw [List.drop_drop]
 rw [e12] at h2
 have hun : U64 (UInt64.ofNat n) = (n : Int) := by rw [lit64 _ (by omega)]
 have hU : U64 (valU (b.take 8)) = ((valU (b.take 8)).toNat : Int) := rfl
 have hlo := takeJ_low (n := n) hm hmo
 have hod := takeJ_odd (n := n) hm hmo
 have heq := takeJ_eq (n := n) hm hmo
 refine FC.of_wp [4, 5, 6] Tryz.func76 rfl rfl rfl rfl (by trivial) (by trivial) (Nat.le_of_ble_eq_true rfl) ?_
 intro A hG hnA hAB
 unfold start
 refine WP.rs hG (Ch.asg rfl rfl (Ch.asg rfl rfl (Ch.asg rfl rfl (Ch.nil (WP.rs hG (Ch.mv rfl rfl ?_))))))
 refine Ch.cH (newReader_fc b) [] 0 gdN (.cons rfl .nil) (.c (.rfl _) .n) rfl (by refine ⟨?_, ?_, ?_, ?_⟩ <;> first | ((conv => lhs; simp only [nrmA, Nat.reduceAdd]); all_goals rfl) | rfl) (by exact trivial) (by exact ⟨rfl, trivial⟩) rfl ?_
 refine Ch.asg rfl rfl (Ch.nil (WP.rs hG (Ch.mv rfl rfl ?_)))
 refine Ch.cH (h1) [0] 1 gdN (.cons rfl .nil) (.c (.rfl _) .n) rfl (by refine ⟨?_, ?_, ?_, ?_⟩ <;> first | ((conv => lhs; simp only [nrmA, Nat.reduceAdd]); all_goals rfl) | rfl) (by exact ⟨rfl, trivial⟩) (by exact trivial) rfl ?_
 refine Ch.asg rfl rfl (Ch.nil (WP.rs hG (Ch.mv rfl rfl ?_)))
 refine Ch.cH (h2) [0] 1 gdN (.cons rfl (.cons rfl .nil)) (.c (.rfl _) (.c (.rfl _) .n)) rfl (by refine ⟨?_, ?_, ?_, ?_⟩ <;> first | ((conv => lhs; simp only [nrmA, Nat.reduceAdd]); all_goals rfl) | rfl) (by exact ⟨rfl, trivial⟩) (by exact trivial) rfl ?_
 refine Ch.asg rfl rfl (Ch.nil ?_)
 rcases take_split (valU (b.take 8)).toNat n with hq | hq | hq
 ·
  have hs := hq
  refine WP.rs hG (Ch.mv rfl rfl ?_)
  refine Ch.cH (h3) [0] 1 gdN (.cons rfl .nil) (.c (.rfl _) .n) rfl (by refine ⟨?_, ?_, ?_, ?_⟩ <;> first | ((conv => lhs; simp only [nrmA, Nat.reduceAdd]); all_goals rfl) | rfl) (by exact ⟨rfl, trivial⟩) (by exact trivial) rfl ?_
  refine Ch.p1 rfl (OpS.not) rfl (Ch.mv rfl rfl (Ch.gm rfl rfl rfl rfl (Ch.g2 rfl rfl rfl rfl (OpS.geqF (by omega)) rfl ?_)))
  refine Ch.p2 rfl rfl (OpS.pickT) rfl (Ch.mv rfl rfl (Ch.skU (gdF rfl rfl rfl) rfl (Ch.skU (gdF rfl rfl rfl) rfl (Ch.skU (gdF rfl rfl rfl) rfl (Ch.skU (gdF rfl rfl rfl) rfl (Ch.skU (gdF rfl rfl rfl) rfl (Ch.p2 rfl rfl (OpS.pickF) rfl (Ch.asg rfl rfl (Ch.nil ?_)))))))))
  refine WP.rs hG (Ch.mv rfl rfl (Ch.mv rfl rfl (Ch.mv rfl rfl (Ch.mv rfl rfl (Ch.skU (gdF rfl rfl rfl) rfl (Ch.skU (gdF rfl rfl rfl) rfl (Ch.skU (gdF rfl rfl rfl) rfl (Ch.skU (gdF rfl rfl rfl) rfl (Ch.skU (gdF rfl rfl rfl) rfl ?_)))))))))
  refine Ch.p2 rfl rfl (OpS.pickF) rfl (Ch.asg rfl rfl (Ch.asg rfl rfl (Ch.asg rfl rfl (Ch.nil (WP.ret ?_)))))
  rw [hlo hs]
  refine (Ret.of (rs := [4, 5, 6]) (vs := [.v (.int .u64 (U64 (valU (b.take 8)))), sA ((b.drop 12).take m), .v (.bool false)]) (H' := []) (res := .tup [.v (.int .u64 (U64 (valU (b.take 8)))), sA ((b.drop 12).take m), .v (.bool false)]) [] ?_ ?_ rfl ?_ (by simp only [List.length_cons, List.length_nil]; decide) ?_).1
  · exact na_of hnA rfl
  · (repeat (first | exact trivial | (refine ⟨⟨(by trivial), _, rfl, .rfl _⟩, ?_⟩)))
  · (repeat (first | exact trivial | refine HFromL.skip ?_ | (refine ⟨⟨(by first | trivial | (simp; first | done | fail) | exact ⟨trivial, hbel _⟩), (by first | rfl | (simp; first | done | fail))⟩, ?_⟩)))
  exact ⟨_, rfl, rfl, by simp [ls, TsOk, List.zip, List.zipWith]⟩
 ·
  have hs := hq
  refine WP.rs hG (Ch.mv rfl rfl ?_)
  refine Ch.cH (h3) [0] 1 gdN (.cons rfl .nil) (.c (.rfl _) .n) rfl (by refine ⟨?_, ?_, ?_, ?_⟩ <;> first | ((conv => lhs; simp only [nrmA, Nat.reduceAdd]); all_goals rfl) | rfl) (by exact ⟨rfl, trivial⟩) (by exact trivial) rfl ?_
  refine Ch.p1 rfl (OpS.not) rfl (Ch.mv rfl rfl (Ch.gm rfl rfl rfl rfl (Ch.g2 rfl rfl rfl rfl (OpS.geqT (by omega)) rfl ?_)))
  refine Ch.p2 rfl rfl (OpS.pickT) rfl (Ch.mv rfl rfl (Ch.gm rfl rfl rfl rfl (Ch.g2 rfl rfl rfl rfl (OpS.rem (by omega) (by omega)) rfl ?_)))
  refine Ch.gm rfl rfl rfl rfl (Ch.g1 rfl rfl rfl (OpS.conv rfl rfl (by exact cv_u64_nat _)) rfl ?_)
  refine Ch.g2 rfl rfl rfl rfl (OpS.int (op := .eql) (v' := .bool false) rfl (by exact congrArg Value.bool (decide_eq_false (by omega)))) rfl ?_
  refine Ch.p2 rfl rfl (OpS.pickT) rfl (Ch.asg rfl rfl (Ch.nil (WP.rs hG (Ch.mv rfl rfl (Ch.mv rfl rfl (Ch.mv rfl rfl (Ch.mv rfl rfl (Ch.skU (gdF rfl rfl rfl) rfl (Ch.skU (gdF rfl rfl rfl) rfl ?_)))))))))
  refine Ch.skU (gdF rfl rfl rfl) rfl (Ch.skU (gdF rfl rfl rfl) rfl (Ch.skU (gdF rfl rfl rfl) rfl (Ch.p2 rfl rfl (OpS.pickF) rfl (Ch.asg rfl rfl (Ch.asg rfl rfl (Ch.asg rfl rfl (Ch.nil (WP.ret ?_))))))))
  rw [hod hs.2]
  refine (Ret.of (rs := [4, 5, 6]) (vs := [.v (.int .u64 (U64 (valU (b.take 8)))), sA ((b.drop 12).take m), .v (.bool false)]) (H' := []) (res := .tup [.v (.int .u64 (U64 (valU (b.take 8)))), sA ((b.drop 12).take m), .v (.bool false)]) [] ?_ ?_ rfl ?_ (by simp only [List.length_cons, List.length_nil]; decide) ?_).1
  · exact na_of hnA rfl
  · (repeat (first | exact trivial | (refine ⟨⟨(by trivial), _, rfl, .rfl _⟩, ?_⟩)))
  · (repeat (first | exact trivial | refine HFromL.skip ?_ | (refine ⟨⟨(by first | trivial | (simp; first | done | fail) | exact ⟨trivial, hbel _⟩), (by first | rfl | (simp; first | done | fail))⟩, ?_⟩)))
  exact ⟨_, rfl, rfl, by simp [ls, TsOk, List.zip, List.zipWith]⟩
 have hs := hq
 refine WP.rs hG (Ch.mv rfl rfl ?_)
 refine Ch.cH (h3) [0] 1 gdN (.cons rfl .nil) (.c (.rfl _) .n) rfl (by refine ⟨?_, ?_, ?_, ?_⟩ <;> first | ((conv => lhs; simp only [nrmA, Nat.reduceAdd]); all_goals rfl) | rfl) (by exact ⟨rfl, trivial⟩) (by exact trivial) rfl ?_
 refine Ch.p1 rfl (OpS.not) rfl (Ch.mv rfl rfl (Ch.gm rfl rfl rfl rfl (Ch.g2 rfl rfl rfl rfl (OpS.geqT (by omega)) rfl ?_)))
 refine Ch.p2 rfl rfl (OpS.pickT) rfl (Ch.mv rfl rfl (Ch.gm rfl rfl rfl rfl (Ch.g2 rfl rfl rfl rfl (OpS.rem (by omega) (by omega)) rfl ?_)))
 refine Ch.gm rfl rfl rfl rfl (Ch.g1 rfl rfl rfl (OpS.conv rfl rfl (by exact cv_u64_nat _)) rfl ?_)
 refine Ch.g2 rfl rfl rfl rfl (OpS.int (op := .eql) (v' := .bool true) rfl (by exact congrArg Value.bool (decide_eq_true (by omega)))) rfl ?_
 refine Ch.p2 rfl rfl (OpS.pickT) rfl (Ch.asg rfl rfl (Ch.nil (WP.rs hG (Ch.mv rfl rfl (Ch.mv rfl rfl (Ch.mv rfl rfl (Ch.mv rfl rfl (Ch.gm rfl rfl rfl rfl (Ch.gm rfl rfl rfl rfl ?_)))))))))
 refine Ch.callP (h4) (gdT rfl rfl) (.cons rfl (.cons rfl .nil)) (.c (.rfl _) (.c (.rfl _) .n)) (by rfl) rfl ?_
 refine Ch.gm rfl rfl rfl rfl (Ch.g2 rfl rfl rfl rfl (OpS.strEql) rfl (Ch.p2 rfl rfl (OpS.pickT) rfl (Ch.asg rfl rfl (Ch.asg rfl rfl (Ch.asg rfl rfl (Ch.nil (WP.ret ?_)))))))
 rw [heq hs.1 hs.2]
 refine (Ret.of (rs := [4, 5, 6]) (vs := [.v (.int .u64 (U64 (valU (b.take 8)))), sA ((b.drop 12).take m), .v (.bool (decide (layJ (valU (b.take 8)) ((b.drop 12).take m) = b)))]) (H' := []) (res := .tup [.v (.int .u64 (U64 (valU (b.take 8)))), sA ((b.drop 12).take m), .v (.bool (decide (layJ (valU (b.take 8)) ((b.drop 12).take m) = b)))]) [] ?_ ?_ rfl ?_ (by simp only [List.length_cons, List.length_nil]; decide) ?_).1
 · exact na_of hnA rfl
 · (repeat (first | exact trivial | (refine ⟨⟨(by trivial), _, rfl, .rfl _⟩, ?_⟩)))
 · (repeat (first | exact trivial | refine HFromL.skip ?_ | (refine ⟨⟨(by first | trivial | (simp; first | done | fail) | exact ⟨trivial, hbel _⟩), (by first | rfl | (simp; first | done | fail))⟩, ?_⟩)))
 exact ⟨_, rfl, rfl, by simp [ls, TsOk, List.zip, List.zipWith]⟩
theorem take_fc (n : Nat) (b : List UInt8) (hn : n < 2) (hb : b.length = 256) : FC Tryz.prog G 76 [.v (.int .i64 (n : Int)), sA b] [] (tkA (takeJ n b)) [] := by
 rcases Nat.lt_or_ge 200 (valU ((b.drop 8).take 4)).toNat with h | h
 · exact takeB_fc n b _ hb rfl h
 exact takeG_fc n b _ hn hb rfl h
end
end Go.Proofs.YtpnbpcopdckgpaaGreatDoor.E
end
namespace Go.Proofs.YtpnbpcopdckgpaaGreatDoor.E
open Go Go.RowKit V
set_option maxRecDepth 4000
structure Wf (d : Dk) : Prop where
 l0 : d.l0.length = 256
 l1 : d.l1.length = 256
 p0 : ∀ s, d.p0 = some s → s.length = 256
 p1 : ∀ s, d.p1 = some s → s.length = 256
 left : 0 ≤ d.left ∧ d.left ≤ 9223372036854775807
def st0 (n : Nat) (d : Dk) : Dk := match d.p0 with | none => d | some s => ⟨s.take n ++ d.l0.drop n, d.l1, none, d.p1, d.left, d.dead⟩
def st1 (n : Nat) (d : Dk) : Dk := match d.p1 with | none => d | some s => ⟨d.l0, s.take n ++ d.l1.drop n, d.p0, none, d.left, d.dead⟩
theorem Wf.st0 {d : Dk} (h : Wf d) (n : Nat) (hn : n ≤ 256) : Wf (st0 n d) := by
 obtain ⟨l0, l1, p0, p1, lf, dd⟩ := d
 cases p0 with
 | none => exact h
 | some s =>
  have h1 := h.p0 s rfl
  have h2 : l0.length = 256 := h.l0
  exact ⟨by show (s.take n ++ l0.drop n).length = 256; rw [List.length_append, List.length_take, List.length_drop]; omega, h.l1, (fun s hs => by cases hs), h.p1, h.left⟩
theorem Wf.st1 {d : Dk} (h : Wf d) (n : Nat) (hn : n ≤ 256) : Wf (st1 n d) := by
 obtain ⟨l0, l1, p0, p1, lf, dd⟩ := d
 cases p1 with
 | none => exact h
 | some s =>
  have h1 := h.p1 s rfl
  have h2 : l1.length = 256 := h.l1
  exact ⟨h.l0, by show (s.take n ++ l1.drop n).length = 256; rw [List.length_append, List.length_take, List.length_drop]; omega, h.p0, (fun s hs => by cases hs), h.left⟩
theorem Wf.act {d : Dk} (h : Wf d) : Wf (actD d) := by
 unfold actD
 have := h.left
 split
 · exact ⟨h.l0, h.l1, h.p0, h.p1, by show 0 ≤ d.left - 1 ∧ d.left - 1 ≤ _; omega⟩
 exact h
def wrD (k : Nat) (s : List UInt8) (d : Dk) : Dk := match k with | 0 => { d with p0 := some s } | _ => { d with p1 := some s }
theorem Wf.wr {d : Dk} (h : Wf d) (k : Nat) (s : List UInt8) (hs : s.length = 256) : Wf (wrD k s d) := by
 match k with
 | 0 => exact ⟨h.l0, h.l1, (fun t ht => by cases ht; exact hs), h.p1, h.left⟩
 | _ + 1 => exact ⟨h.l0, h.l1, h.p0, (fun t ht => by cases ht; exact hs), h.left⟩
section
variable {G : List (Nat × Array Value)}
theorem stays0_fc (d : Dk) (hw : Wf d) (n : Nat) (hn : n ≤ 256) : FC Tryz.prog G 66 [.ptr 0 0, .v (.int .i64 (n : Int))] (dkH d) (.tup []) (dkH (st0 n d)) := by
 obtain ⟨l0, l1, p0, p1, lf, dd⟩ := d
 cases p0 with
 | none => exact stays0N_fc l0 l1 p1 lf dd n
 | some s =>
  have h1 := hw.p0 s rfl
  have h2 : l0.length = 256 := hw.l0
  exact stays0S_fc l0 l1 p1 lf dd s n (by omega) (by omega) (by omega) (by omega)
theorem stays1_fc (d : Dk) (hw : Wf d) (n : Nat) (hn : n ≤ 256) : FC Tryz.prog G 66 [.ptr 0 2, .v (.int .i64 (n : Int))] (dkH d) (.tup []) (dkH (st1 n d)) := by
 obtain ⟨l0, l1, p0, p1, lf, dd⟩ := d
 cases p1 with
 | none => exact stays1N_fc l0 l1 p0 lf dd n
 | some s =>
  have h1 := hw.p1 s rfl
  have h2 : l1.length = 256 := hw.l1
  exact stays1S_fc l0 l1 p0 lf dd s n (by omega) (by omega) (by omega) (by omega)
theorem write1_fc (d : Dk) (s : List UInt8) (hs' : s.length = 256) (hl : 0 ≤ d.left ∧ d.left ≤ 9223372036854775807) : FC Tryz.prog G 160 [.ptr 0 0, .v (.int .i64 1), sA s] (dkH d)
  (.v (.int .i64 (if d.dead then 120 else errS (actD { d with p1 := some s })))) (dkH (if d.dead then d else actD { d with p1 := some s })) := by
 have ha := dkActs_fc (G := G) { d with p1 := some s } hl
 have hst := dkState_fc (G := G) (actD { d with p1 := some s })
 refine FC.of_wp [6] Tryz.func160 rfl rfl rfl rfl ⟨rfl, trivial, trivial, trivial⟩ ⟨dk_bel _ _, trivial⟩ (Nat.le_of_ble_eq_true rfl) ?_
 intro A hG hnA hAB
 unfold start
 refine WP.rs hG (Ch.p1 rfl (OpS.boxS) rfl (Ch.asg rfl rfl (Ch.nil (WP.rs hG (Ch.mv rfl rfl (Ch.mv rfl rfl ?_))))))
 refine Ch.cH (at1_fc d) [0] 1 gdN (.cons rfl (.cons rfl .nil)) (.c (.rfl _) (.c (.rfl _) .n)) rfl (by refine ⟨?_, ?_, ?_, ?_⟩ <;> first | ((conv => lhs; simp only [nrmA, Nat.reduceAdd, pend_ren]); all_goals rfl) | rfl) (by exact ⟨rfl, trivial⟩) (by exact trivial) rfl ?_
 refine Ch.asg rfl rfl (Ch.nil (WP.seq (WP.block (WP.rs hG (Ch.mv rfl rfl (Ch.p2 rfl rfl (OpS.eqNil (.p _ _) rfl) rfl (Ch.mv rfl rfl (Ch.g1 rfl rfl rfl (OpS.loadS rfl rfl) rfl (Ch.g1 rfl rfl rfl (OpS.lenS rfl) rfl ?_)))))))))
 refine Ch.g2 rfl rfl rfl rfl (OpS.int (v' := .bool false) rfl (by rw [hs']; rfl)) rfl ?_
 refine Ch.p2 rfl rfl (OpS.pickF) rfl (Ch.asg rfl rfl (Ch.nil (WP.cond_false rfl (WP.rs hG (Ch.mv rfl rfl (Ch.p1 rfl (OpS.nilCheckP) rfl (Ch.p1 rfl (OpS.fieldAddr rfl rfl rfl rfl) rfl (Ch.q1 rfl (OpS.loadP rfl rfl rfl) rfl rfl (Ch.asg rfl rfl ?_)))))))))
 refine Ch.nil ?_
 refine WP.cond rfl ?_ ?_
 ·
  intro ht
  rw [if_pos ht, if_pos ht]
  refine WP.rs hG (Ch.asg rfl rfl (Ch.nil (WP.ret ?_)))
  refine (Ret.of (rs := [6]) (vs := [.v (.int .i64 120)]) (H' := dkH d) (res := .v (.int .i64 120)) [0] ?_ ?_ rfl ?_ (by simp only [List.length_cons, List.length_nil]; decide) ?_).1
  · exact na_of hnA rfl
  · (repeat (first | exact trivial | (refine ⟨⟨(by trivial), _, rfl, .rfl _⟩, ?_⟩)))
  · (repeat (first | exact trivial | refine HFromL.skip ?_ | (refine ⟨⟨(by (simp; first | done | fail)), (by (simp [pend_ren]; first | done | fail))⟩, ?_⟩)))
  rfl
 intro ht
 rw [if_neg (by rw [ht]; decide), if_neg (by rw [ht]; decide)]
 refine WP.skip (WP.rs hG (Ch.mv rfl rfl (Ch.p1 rfl (OpS.nilCheckP) rfl (Ch.p1 rfl (OpS.fieldAddr rfl rfl rfl rfl) rfl (Ch.ws rfl rfl (OpS.storeP (cs := dkC d) rfl rfl rfl (by simp)) rfl ?_)))))
 refine Ch.nil (WP.rs hG (Ch.mv rfl rfl ?_))
 refine Ch.cH (ha) [0] 1 gdN (.cons rfl .nil) (.c (.rfl _) .n) rfl (by refine ⟨?_, ?_, ?_, ?_⟩ <;> first | ((conv => lhs; simp only [nrmA, Nat.reduceAdd, pend_ren]); all_goals rfl) | rfl) (by exact ⟨rfl, trivial⟩) (by exact trivial) rfl ?_
 refine Ch.nil (WP.rs hG (Ch.mv rfl rfl ?_))
 refine Ch.cH (hst) [0] 1 gdN (.cons rfl .nil) (.c (.rfl _) .n) rfl (by refine ⟨?_, ?_, ?_, ?_⟩ <;> first | ((conv => lhs; simp only [nrmA, Nat.reduceAdd, pend_ren]); all_goals rfl) | rfl) (by exact ⟨rfl, trivial⟩) (by exact trivial) rfl ?_
 refine Ch.asg rfl rfl (Ch.nil (WP.ret ?_))
 refine (Ret.of (rs := [6]) (vs := [.v (.int .i64 (errS (actD { d with p1 := some s })))]) (H' := dkH (actD { d with p1 := some s })) (res := .v (.int .i64 (errS (actD { d with p1 := some s })))) [0] ?_ ?_ rfl ?_ (by simp only [List.length_cons, List.length_nil]; decide) ?_).1
 · exact na_of hnA rfl
 · (repeat (first | exact trivial | (refine ⟨⟨(by trivial), _, rfl, .rfl _⟩, ?_⟩)))
 · (repeat (first | exact trivial | refine HFromL.skip ?_ | (refine ⟨⟨(by (simp; first | done | fail)), (by (simp [pend_ren]; first | done | fail))⟩, ?_⟩)))
 rfl
theorem write_fc (k : Nat) (hk : k < 2) (d : Dk) (s : List UInt8) (hs' : s.length = 256) (hw : Wf d) (hd : d.dead = false) : FC Tryz.prog G 160 [.ptr 0 0, .v (.int .i64 (k : Int)), sA s] (dkH d)
  (.v (.int .i64 (errS (actD (wrD k s d))))) (dkH (actD (wrD k s d))) := by
 match k, hk with
 | 0, _ =>
  have h := write0_fc (G := G) d s hs' hw.left
  rw [if_neg (by rw [hd]; decide), if_neg (by rw [hd]; decide)] at h
  exact h
 | 1, _ =>
  have h := write1_fc (G := G) d s hs' hw.left
  rw [if_neg (by rw [hd]; decide), if_neg (by rw [hd]; decide)] at h
  exact h
theorem syncA_fc (d : Dk) (hw : Wf d) (hd : d.dead = false) (he : (actD d).dead = true) : FC Tryz.prog G 161 [.ptr 0 0] (dkH d) (.v (.int .i64 120)) (dkH (actD d)) := by
 have ha := dkActs_fc (G := G) d hw.left
 refine FC.of_wp [2] Tryz.func161 rfl rfl rfl rfl ⟨rfl, trivial⟩ ⟨dk_bel _ _, trivial⟩ (Nat.le_of_ble_eq_true rfl) ?_
 intro A hG hnA hAB
 unfold start
 refine WP.rs hG (Ch.asg rfl rfl (Ch.nil (WP.seq (WP.rs hG (Ch.mv rfl rfl (Ch.p1 rfl (OpS.nilCheckP) rfl (Ch.p1 rfl (OpS.fieldAddr rfl rfl rfl rfl) rfl (Ch.q1 rfl (OpS.loadP rfl rfl rfl) rfl rfl (Ch.p1 rfl (OpS.not) rfl ?_)))))))))
 refine Ch.nil ?_
 refine WP.cond rfl ?_ ?_
 ·
  intro ht
  skip
  refine WP.rg hG (Ch.mv rfl rfl ?_)
  refine Ch.cH (ha) [0] 1 gdN (.cons rfl .nil) (.c (.rfl _) .n) rfl (by refine ⟨?_, ?_, ?_, ?_⟩ <;> first | ((conv => lhs; simp only [nrmA, Nat.reduceAdd, pend_ren]); all_goals rfl) | rfl) (by exact ⟨rfl, trivial⟩) (by exact trivial) rfl ?_
  refine Ch.nil (WP.seq (WP.rs hG (Ch.mv rfl rfl (Ch.p1 rfl (OpS.nilCheckP) rfl (Ch.p1 rfl (OpS.fieldAddr rfl rfl rfl rfl) rfl (Ch.q1 rfl (OpS.loadP rfl rfl rfl) rfl rfl (Ch.nil ?_)))))))
  refine WP.cond rfl ?_ ?_
  ·
   intro ht
   skip
   refine WP.rs hG (Ch.asg rfl rfl (Ch.nil (WP.ret ?_)))
   refine (Ret.of (rs := [2]) (vs := [.v (.int .i64 120)]) (H' := dkH (actD d)) (res := .v (.int .i64 120)) [0] ?_ ?_ rfl ?_ (by simp only [List.length_cons, List.length_nil]; decide) ?_).1
   · exact na_of hnA rfl
   · (repeat (first | exact trivial | (refine ⟨⟨(by trivial), _, rfl, .rfl _⟩, ?_⟩)))
   · (repeat (first | exact trivial | refine HFromL.skip ?_ | (refine ⟨⟨(by (simp; first | done | fail)), (by (simp [pend_ren]; first | done | fail))⟩, ?_⟩)))
   rfl
  intro ht
  rw [he] at ht; cases ht
  done
 intro ht
 rw [hd] at ht; cases ht
 done
def syk (e : Dk) : Nat → Dk | 0 => e | 1 => st0 256 e | _ => st1 256 (st0 256 e)
theorem three (m : Nat) (h : m ≤ 2) : (m = 0 ∧ True) ∨ (m = 1 ∧ True) ∨ (m = 2 ∧ True) := by
 rcases (show m = 0 ∨ m = 1 ∨ m = 2 by omega) with rfl | rfl | rfl <;> simp
theorem sync_fc (d : Dk) (hw : Wf d) (hd : d.dead = false) (he : (actD d).dead = false) : FC Tryz.prog G 161 [.ptr 0 0] (dkH d) (.v (.int .i64 0)) (dkH (st1 256 (st0 256 (actD d)))) := by
 have ha := dkActs_fc (G := G) d hw.left
 have h0 := stays0_fc (G := G) (actD d) hw.act 256 (Nat.le_refl _)
 have h1 := stays1_fc (G := G) (st0 256 (actD d)) (hw.act.st0 256 (Nat.le_refl _)) 256 (Nat.le_refl _)
 refine FC.of_wp [2] Tryz.func161 rfl rfl rfl rfl ⟨rfl, trivial⟩ ⟨dk_bel _ _, trivial⟩ (Nat.le_of_ble_eq_true rfl) ?_
 intro A hG hnA hAB
 unfold start
 refine WP.rs hG (Ch.asg rfl rfl (Ch.nil (WP.seq (WP.rs hG (Ch.mv rfl rfl (Ch.p1 rfl (OpS.nilCheckP) rfl (Ch.p1 rfl (OpS.fieldAddr rfl rfl rfl rfl) rfl (Ch.q1 rfl (OpS.loadP rfl rfl rfl) rfl rfl (Ch.p1 rfl (OpS.not) rfl ?_)))))))))
 refine Ch.nil ?_
 refine WP.cond rfl ?_ ?_
 ·
  intro ht
  skip
  refine WP.rg hG (Ch.mv rfl rfl ?_)
  refine Ch.cH (ha) [0] 1 gdN (.cons rfl .nil) (.c (.rfl _) .n) rfl (by refine ⟨?_, ?_, ?_, ?_⟩ <;> first | ((conv => lhs; simp only [nrmA, Nat.reduceAdd, pend_ren]); all_goals rfl) | rfl) (by exact ⟨rfl, trivial⟩) (by exact trivial) rfl ?_
  refine Ch.nil (WP.seq (WP.rs hG (Ch.mv rfl rfl (Ch.p1 rfl (OpS.nilCheckP) rfl (Ch.p1 rfl (OpS.fieldAddr rfl rfl rfl rfl) rfl (Ch.q1 rfl (OpS.loadP rfl rfl rfl) rfl rfl (Ch.nil ?_)))))))
  refine WP.cond rfl ?_ ?_
  ·
   intro ht
   rw [he] at ht; cases ht
   done
  intro ht
  skip
  refine WP.skip (WP.seq (WP.rs hG (Ch.mv rfl rfl (Ch.nil (WP.block ?_)))))
  refine WP.loop (fun k σ => ∃ m : Nat, m + k = 2 ∧ σ = ⟨25, ls [(0, .ptr 0 0), (15, .v (.int .i64 (m : Int)))], lh [(0, .cells 105 (dkC (syk (actD d) m)))], blt 1⟩) (2) (Ent.of [0] ?_ ?_ ?_ ?_).se ⟨0, by omega, rfl⟩ ?_
  · exact na_of hnA rfl
  · (repeat (first | exact trivial | (refine ⟨⟨(by trivial), _, rfl, .rfl _⟩, ?_⟩)))
  · (repeat (first | exact trivial | (refine ⟨⟨rfl, (by (simp; first | done | fail)), (by (simp [pend_ren, syk]; first | done | fail))⟩, ?_⟩)))
  · exact nd_of rfl
  rintro k σ ⟨m, hm, rfl⟩
  rcases three m (by omega) with ⟨rfl, hq⟩ | ⟨rfl, hq⟩ | ⟨rfl, hq⟩
  ·
   have hs := hq
   refine WP.rs hG (Ch.p2 rfl rfl (OpS.int (v' := .bool true) rfl rfl) rfl (Ch.nil (WP.seq (WP.cond_true rfl (WP.skip (WP.seq (WP.block (WP.rs hG (Ch.mv rfl rfl ?_)))))))))
   refine Ch.asg rfl rfl (Ch.nil (WP.rg hG (Ch.mv rfl rfl (Ch.mv rfl rfl (Ch.p1 rfl (OpS.nilCheckP) rfl (Ch.p1 rfl (OpS.fieldAddr rfl rfl rfl rfl) rfl (Ch.p2 rfl rfl (OpS.indexAddrP (sz := 2) rfl rfl rfl (by omega) (by omega)) rfl ?_)))))))
   refine Ch.cH (h0) [0] 1 gdN (.cons rfl (.cons rfl .nil)) (.c (.rfl _) (.c (.rfl _) .n)) rfl (by refine ⟨?_, ?_, ?_, ?_⟩ <;> first | ((conv => lhs; simp only [nrmA, Nat.reduceAdd, pend_ren]); all_goals rfl) | rfl) (by exact ⟨rfl, trivial⟩) (by exact trivial) rfl ?_
   refine Ch.nil (WP.rg hG (Ch.p2 rfl rfl (OpS.int (v' := .int .i64 ((1 : Nat) : Int)) rfl rfl) rfl (Ch.mv rfl rfl (Ch.nil ?_))))
   refine ⟨k - 1, _, by omega, (Ent.of [0] ?_ ?_ ?_ ?_).se, 1, by omega, rfl⟩
   · exact na_of hnA rfl
   · (repeat (first | exact trivial | (refine ⟨⟨(by trivial), _, rfl, .rfl _⟩, ?_⟩)))
   · (repeat (first | exact trivial | (refine ⟨⟨rfl, (by (simp; first | done | fail)), (by (simp [pend_ren, syk]; first | done | fail))⟩, ?_⟩)))
   exact nd_of rfl
  ·
   have hs := hq
   refine WP.rs hG (Ch.p2 rfl rfl (OpS.int (v' := .bool true) rfl rfl) rfl (Ch.nil (WP.seq (WP.cond_true rfl (WP.skip (WP.seq (WP.block (WP.rs hG (Ch.mv rfl rfl ?_)))))))))
   refine Ch.asg rfl rfl (Ch.nil (WP.rg hG (Ch.mv rfl rfl (Ch.mv rfl rfl (Ch.p1 rfl (OpS.nilCheckP) rfl (Ch.p1 rfl (OpS.fieldAddr rfl rfl rfl rfl) rfl (Ch.p2 rfl rfl (OpS.indexAddrP (sz := 2) rfl rfl rfl (by omega) (by omega)) rfl ?_)))))))
   refine Ch.cH (h1) [0] 1 gdN (.cons rfl (.cons rfl .nil)) (.c (.rfl _) (.c (.rfl _) .n)) rfl (by refine ⟨?_, ?_, ?_, ?_⟩ <;> first | ((conv => lhs; simp only [nrmA, Nat.reduceAdd, pend_ren]); all_goals rfl) | rfl) (by exact ⟨rfl, trivial⟩) (by exact trivial) rfl ?_
   refine Ch.nil (WP.rg hG (Ch.p2 rfl rfl (OpS.int (v' := .int .i64 ((2 : Nat) : Int)) rfl rfl) rfl (Ch.mv rfl rfl (Ch.nil ?_))))
   refine ⟨k - 1, _, by omega, (Ent.of [0] ?_ ?_ ?_ ?_).se, 2, by omega, rfl⟩
   · exact na_of hnA rfl
   · (repeat (first | exact trivial | (refine ⟨⟨(by trivial), _, rfl, .rfl _⟩, ?_⟩)))
   · (repeat (first | exact trivial | (refine ⟨⟨rfl, (by (simp; first | done | fail)), (by (simp [pend_ren, syk]; first | done | fail))⟩, ?_⟩)))
   exact nd_of rfl
  have hs := hq
  refine WP.rs hG (Ch.p2 rfl rfl (OpS.int (v' := .bool false) rfl rfl) rfl (Ch.nil (WP.seq (WP.cond_false rfl (WP.exit (WP.rs hG (Ch.asg rfl rfl (Ch.nil (WP.ret ?_)))))))))
  refine (Ret.of (rs := [2]) (vs := [.v (.int .i64 0)]) (H' := dkH (st1 256 (st0 256 (actD d)))) (res := .v (.int .i64 0)) [0] ?_ ?_ rfl ?_ (by simp only [List.length_cons, List.length_nil]; decide) ?_).1
  · exact na_of hnA rfl
  · (repeat (first | exact trivial | (refine ⟨⟨(by trivial), _, rfl, .rfl _⟩, ?_⟩)))
  · (repeat (first | exact trivial | refine HFromL.skip ?_ | (refine ⟨⟨(by (simp; first | done | fail)), (by (conv => rhs; simp only [AO.ren, AV.ren, AV.renL, Option.map_some, pend_ren]) <;> rfl)⟩, ?_⟩)))
  rfl
 intro ht
 rw [hd] at ht; cases ht
 done
end
end Go.Proofs.YtpnbpcopdckgpaaGreatDoor.E
namespace Go.Proofs.YtpnbpcopdckgpaaGreatDoor.E
open Go Go.RowKit V
set_option maxRecDepth 4000
def z256 : List UInt8 := List.replicate 256 0
def nd : Nat → Dk | 0 => ⟨[], [], none, none, 0, false⟩ | 1 => ⟨z256, [], none, none, 0, false⟩ | _ => ⟨z256, z256, none, none, 0, false⟩
def clN (x : Int) : Nat := (if 256 < (if 0 > x then 0 else x) then 256 else (if 0 > x then 0 else x)).toNat
theorem clN_le (x : Int) : clN x ≤ 256 := by unfold clN; split <;> split <;> omega
def howN : List Int → Nat | [] => clN 0 | x :: _ => clN x
def cr0 (d : Dk) (h : List Int) : Dk × List Int := match d.p0 with | none => (d, h) | some _ => (st0 (howN h) d, h.tail)
def cr1 (d : Dk) (h : List Int) : Dk × List Int := match d.p1 with | none => (d, h) | some _ => (st1 (howN h) d, h.tail)
def crE (d : Dk) : Dk := { d with left := 0, dead := false }
def crashD (d : Dk) (h : List Int) : Dk := crE (cr1 (cr0 d h).1 (cr0 d h).2).1
def crR (m : Nat) (d : Dk) (h : List Int) : Dk := match m with | 0 => crashD d h | 1 => crE (cr1 d h).1 | _ => crE d
theorem nw_len {d : Dk} (hw : Wf d) : (nw0 d).length = 256 ∧ (nw1 d).length = 256 := by
 obtain ⟨l0, l1, p0, p1, lf, dd⟩ := d
 constructor
 ·
  cases p0 with
  | none => exact hw.l0
  | some s => exact hw.p0 s rfl
 cases p1 with
 | none => exact hw.l1
 | some s => exact hw.p1 s rfl
theorem better_split (n : Nat) (b : List UInt8) (o : UInt64 × List UInt8) (c : UInt64) (t : List UInt8) (ok : Bool) (h : takeJ n b = (c, t, ok)) :
  (ok = false ∧ betterJ n b o = o) ∨ (ok = true ∧ ¬ o.1.toNat < c.toNat ∧ betterJ n b o = o) ∨ (ok = true ∧ o.1.toNat < c.toNat ∧ betterJ n b o = (c, t)) := by
 unfold betterJ
 rw [h]
 cases ok with
 | false => exact .inl ⟨rfl, if_neg (fun k => by cases k.1)⟩
 | true =>
  by_cases hc : o.1.toNat < c.toNat
  · exact .inr (.inr ⟨rfl, hc, if_pos ⟨rfl, hc⟩⟩)
  exact .inr (.inl ⟨rfl, hc, if_neg (fun k => hc k.2)⟩)
def opR (b0 b1 : List UInt8) (m : Nat) (o : UInt64 × List UInt8) : UInt64 × List UInt8 := match m with | 0 => betterJ 1 b1 (betterJ 0 b0 o) | 1 => betterJ 1 b1 o | _ => o
abbrev jC (s : List UInt8) (c : UInt64) (lost : Bool) : List AV := [.ptr 0 0, sA s, .v (.int .u64 (U64 c)), .v (.bool lost)]
abbrev djH (d : Dk) (s : List UInt8) (c : UInt64) (lost : Bool) : List (Option AO) := [some (.cells 105 (dkC d)), some (.cells 129 (jC s c lost))]
theorem dj_bel (u : Nat → Bool) (hu : u 0 = true) (d : Dk) (s : List UInt8) (c : UInt64) (lost : Bool) : belH u (djH d s c lost) := ⟨dk_bel _ _, ⟨hu, trivial, trivial, trivial, trivial⟩, trivial⟩
section
variable {G : List (Nat × Array Value)}
theorem newDisk_fc : FC Tryz.prog G 25 [] [] (.ptr 0 0) (dkH (nd 2)) := by
 have hrep := repeat_fc (G := G) 256 (by decide)
 refine FC.of_wp [0] Tryz.func25 rfl rfl rfl rfl (by trivial) (by trivial) (Nat.le_of_ble_eq_true rfl) ?_
 intro A hG hnA hAB
 unfold start
 refine WP.rs hG (Ch.asg rfl rfl (Ch.nil (WP.rs hG (Ch.pup gdN (by repeat (first | exact EvP.nil | (apply EvP.cons; exact rfl))) (OpS.build (cs := dkC (nd 0)) rfl rfl rfl rfl rfl (by rfl)) rfl ?_))))
 refine Ch.a1 rfl (OpS.box 0 rfl) rfl rfl (Ch.asg rfl rfl (Ch.nil (WP.seq (WP.rs hG (Ch.mv rfl rfl (Ch.nil (WP.block ?_)))))))
 refine WP.loop (fun k σ => ∃ m : Nat, m + k = 2 ∧ σ = ⟨17, ls [(1, .ptr 0 0), (5, .v (.int .i64 (m : Int)))], lh [(0, .cells 105 (dkC (nd m)))], blt 1⟩) (2) (Ent.of [0] ?_ ?_ ?_ ?_).se ⟨0, by omega, rfl⟩ ?_
 · exact na_of hnA rfl
 · (repeat (first | exact trivial | (refine ⟨⟨(by trivial), _, rfl, .rfl _⟩, ?_⟩)))
 · (repeat (first | exact trivial | (refine ⟨⟨rfl, (by trivial), (by rfl)⟩, ?_⟩)))
 · exact nd_of rfl
 rintro k σ ⟨m, hm, rfl⟩
 rcases three m (by omega) with ⟨rfl, hq⟩ | ⟨rfl, hq⟩ | ⟨rfl, hq⟩
 ·
  have hs := hq
  refine WP.rs hG (Ch.p2 rfl rfl (OpS.int (v' := .bool true) rfl rfl) rfl (Ch.nil (WP.seq (WP.cond_true rfl (WP.skip (WP.seq (WP.block (WP.rs hG (Ch.mv rfl rfl ?_)))))))))
  refine Ch.asg rfl rfl (Ch.nil (WP.rgD (by kernel_rfl) hG (Ch.mv rfl rfl (Ch.mv rfl rfl (Ch.callP (hrep) gdN (.cons rfl (.cons rfl .nil)) (.c (.rfl _) (.c (.rfl _) .n)) (by rfl) rfl ?_)))))
  refine Ch.p1 rfl (OpS.nilCheckP) rfl (Ch.p1 rfl (OpS.fieldAddr rfl rfl rfl rfl) rfl (Ch.p2 rfl rfl (OpS.indexAddrP (sz := 2) rfl rfl rfl (by omega) (by omega)) rfl ?_))
  refine Ch.p1 rfl (OpS.fieldAddr rfl rfl rfl rfl) rfl (Ch.ws rfl rfl (OpS.storeP (cs := dkC (nd 0)) rfl rfl rfl (by simp [nd])) rfl ?_)
  refine Ch.nilD ?_ (by kernel_rfl)
  refine WP.rg hG (Ch.p2 rfl rfl (OpS.int (v' := .int .i64 ((1 : Nat) : Int)) rfl rfl) rfl (Ch.mv rfl rfl (Ch.nil ?_)))
  refine ⟨k - 1, _, by omega, (Ent.of [0] ?_ ?_ ?_ ?_).se, 1, by omega, rfl⟩
  · exact na_of hnA rfl
  · (repeat (first | exact trivial | (refine ⟨⟨(by trivial), _, rfl, .rfl _⟩, ?_⟩)))
  · (repeat (first | exact trivial | (refine ⟨⟨rfl, (by trivial), (by rfl)⟩, ?_⟩)))
  exact nd_of rfl
 ·
  have hs := hq
  refine WP.rs hG (Ch.p2 rfl rfl (OpS.int (v' := .bool true) rfl rfl) rfl (Ch.nil (WP.seq (WP.cond_true rfl (WP.skip (WP.seq (WP.block (WP.rs hG (Ch.mv rfl rfl ?_)))))))))
  refine Ch.asg rfl rfl (Ch.nil (WP.rgD (by kernel_rfl) hG (Ch.mv rfl rfl (Ch.mv rfl rfl (Ch.callP (hrep) gdN (.cons rfl (.cons rfl .nil)) (.c (.rfl _) (.c (.rfl _) .n)) (by rfl) rfl ?_)))))
  refine Ch.p1 rfl (OpS.nilCheckP) rfl (Ch.p1 rfl (OpS.fieldAddr rfl rfl rfl rfl) rfl (Ch.p2 rfl rfl (OpS.indexAddrP (sz := 2) rfl rfl rfl (by omega) (by omega)) rfl ?_))
  refine Ch.p1 rfl (OpS.fieldAddr rfl rfl rfl rfl) rfl (Ch.ws rfl rfl (OpS.storeP (cs := dkC (nd 1)) rfl rfl rfl (by simp [nd])) rfl ?_)
  refine Ch.nilD ?_ (by kernel_rfl)
  refine WP.rg hG (Ch.p2 rfl rfl (OpS.int (v' := .int .i64 ((2 : Nat) : Int)) rfl rfl) rfl (Ch.mv rfl rfl (Ch.nil ?_)))
  refine ⟨k - 1, _, by omega, (Ent.of [0] ?_ ?_ ?_ ?_).se, 2, by omega, rfl⟩
  · exact na_of hnA rfl
  · (repeat (first | exact trivial | (refine ⟨⟨(by trivial), _, rfl, .rfl _⟩, ?_⟩)))
  · (repeat (first | exact trivial | (refine ⟨⟨rfl, (by trivial), (by rfl)⟩, ?_⟩)))
  exact nd_of rfl
 have hs := hq
 refine WP.rs hG (Ch.p2 rfl rfl (OpS.int (v' := .bool false) rfl rfl) rfl (Ch.nil (WP.seq (WP.cond_false rfl (WP.exit (WP.rs hG (Ch.mv rfl rfl (Ch.asg rfl rfl (Ch.nil ?_)))))))))
 refine WP.ret ?_
 refine (Ret.of (rs := [0]) (vs := [.ptr 0 0]) (H' := dkH (nd 2)) (res := .ptr 0 0) [0] ?_ ?_ rfl ?_ (by simp only [List.length_cons, List.length_nil]; decide) ?_).1
 · exact na_of hnA rfl
 · (repeat (first | exact trivial | (refine ⟨⟨(by trivial), _, rfl, .rfl _⟩, ?_⟩)))
 · (repeat (first | exact trivial | refine HFromL.skip ?_ | (refine ⟨⟨(by trivial), (by rfl)⟩, ?_⟩)))
 rfl
theorem open_fc (d : Dk) (hw : Wf d) (hd : d.dead = false) : FC Tryz.prog G 50 [.ptr 0 0] (dkH d) (.ptr 1 0) (djH d (openJ (nw0 d) (nw1 d)).2 (openJ (nw0 d) (nw1 d)).1 false) := by
 obtain ⟨hn0, hn1⟩ := nw_len hw
 refine FC.of_wp [2] Tryz.func50 rfl rfl rfl rfl ⟨rfl, trivial⟩ ⟨dk_bel _ _, trivial⟩ (Nat.le_of_ble_eq_true rfl) ?_
 intro A hG hnA hAB
 unfold start
 refine WP.rs hG (Ch.asg rfl rfl (Ch.nil (WP.seq (WP.rs hG (Ch.mv rfl rfl (Ch.p2 rfl rfl (OpS.eqNil (.p _ _) rfl) rfl (Ch.mv rfl rfl (Ch.gm rfl rfl rfl rfl (Ch.g1 rfl rfl rfl (OpS.nilCheckP) rfl ?_)))))))))
 refine Ch.g1 rfl rfl rfl (OpS.fieldAddr rfl rfl rfl rfl) rfl (Ch.pu (by exact gdT rfl rfl) (by exact ⟨rfl, trivial⟩) (OpS.loadP rfl rfl rfl) (by exact ⟨rfl, trivial⟩) rfl ?_)
 refine Ch.p2 rfl rfl (OpS.pickF) rfl (Ch.nil ?_)
 refine WP.cond rfl ?_ ?_
 ·
  intro ht
  rw [hd] at ht; cases ht
  done
 intro ht
 skip
 refine WP.skip (WP.rs hG (Ch.mv rfl rfl (Ch.pup gdN (by repeat (first | exact EvP.nil | (apply EvP.cons; exact rfl))) (OpS.build (cs := jC [] 0 false) rfl rfl rfl rfl rfl (by rfl)) rfl ?_)))
 refine Ch.a1 rfl (OpS.box 1 rfl) rfl rfl (Ch.asg rfl rfl (Ch.nil (WP.seq (WP.rs hG (Ch.mv rfl rfl (Ch.nil (WP.block ?_)))))))
 refine WP.loop (fun k σ => ∃ (m : Nat) (o : UInt64 × List UInt8), (m + k = 2 ∧ opR (nw0 d) (nw1 d) m o = openJ (nw0 d) (nw1 d)) ∧ σ = ⟨53, ls [(0, .ptr 0 0), (3, .ptr 1 0), (19, .v (.int .i64 (m : Int)))], lh [(0, .cells 105 (dkC d)), (1, .cells 129 (jC o.2 o.1 false))], blt 2⟩) (2) (Ent.of [0, 1] ?_ ?_ ?_ ?_).se ⟨0, (0, []), ⟨by omega, rfl⟩, rfl⟩ ?_
 · exact na_of hnA rfl
 · (repeat (first | exact trivial | (refine ⟨⟨(by trivial), _, rfl, .rfl _⟩, ?_⟩)))
 · (repeat (first | exact trivial | (refine ⟨⟨rfl, (by first | trivial | (simp; first | done | fail)), (by first | rfl | (simp [pend_ren]; first | done | fail))⟩, ?_⟩)))
 · exact nd_of rfl
 rintro k σ ⟨m, o, ⟨hm, hR⟩, rfl⟩
 rcases three m (by omega) with ⟨rfl, hq⟩ | ⟨rfl, hq⟩ | ⟨rfl, hq⟩
 ·
  have hs := hq
  refine WP.rs hG (Ch.p2 rfl rfl (OpS.int (v' := .bool true) rfl rfl) rfl (Ch.nil (WP.seq (WP.cond_true rfl (WP.skip (WP.seq (WP.block (WP.rs hG (Ch.mv rfl rfl ?_)))))))))
  refine Ch.asg rfl rfl (Ch.nil ?_)
  have hT := take_fc (G := G) 0 (nw0 d) (by decide) hn0
  obtain ⟨c, t, ok, hk⟩ : ∃ c t ok, takeJ 0 (nw0 d) = (c, t, ok) := ⟨_, _, _, rfl⟩
  have hu1 : U64 c = (c.toNat : Int) := rfl
  have hu2 : U64 o.1 = (o.1.toNat : Int) := rfl
  have hbs := better_split 0 (nw0 d) o c t ok hk
  rw [hk] at hT
  replace hT : FC Tryz.prog G 76 _ [] (.tup [.v (.int .u64 (U64 c)), sA t, .v (.bool ok)]) [] := hT
  rcases hbs with ⟨rfl, hq⟩ | ⟨rfl, hq⟩ | ⟨rfl, hq⟩
  ·
   have hs := hq
   refine WP.rs hG (Ch.mv rfl rfl (Ch.mv rfl rfl (Ch.mv rfl rfl (Ch.p1 rfl (OpS.nilCheckP) rfl (Ch.p1 rfl (OpS.fieldAddr rfl rfl rfl rfl) rfl (Ch.p2 rfl rfl (OpS.indexAddrP (sz := 2) rfl rfl rfl (by omega) (by omega)) rfl ?_))))))
   refine Ch.cH (now0_fc d) [0] 2 gdN (.cons rfl .nil) (.c (.rfl _) .n) rfl (by refine ⟨?_, ?_, ?_, ?_⟩ <;> first | ((conv => lhs; simp only [nrmA, Nat.reduceAdd, pend_ren]); all_goals rfl) | rfl) (by exact ⟨rfl, trivial⟩) (by exact trivial) rfl ?_
   refine Ch.callP (hT) gdN (.cons rfl (.cons rfl .nil)) (.c (.rfl _) (.c (.rfl _) .n)) (by rfl) rfl ?_
   refine Ch.mv rfl rfl (Ch.p1 rfl (OpS.extract rfl) rfl (Ch.p1 rfl (OpS.extract rfl) rfl (Ch.p1 rfl (OpS.extract rfl) rfl (Ch.asg rfl rfl (Ch.asg rfl rfl (Ch.asg rfl rfl (Ch.nil (WP.rs hG (Ch.mv rfl rfl ?_)))))))))
   refine Ch.mv rfl rfl (Ch.skU (gdF rfl rfl rfl) rfl (Ch.skU (gdF rfl rfl rfl) rfl (Ch.skU (gdF rfl rfl rfl) rfl (Ch.skU (gdF rfl rfl rfl) rfl (Ch.skU (gdF rfl rfl rfl) rfl (Ch.skU (gdF rfl rfl rfl) rfl (Ch.p2 rfl rfl (OpS.pickF) rfl (Ch.nil (WP.cond_false rfl ?_)))))))))
   refine WP.skip (WP.rg hG (Ch.p2 rfl rfl (OpS.int (v' := .int .i64 ((1 : Nat) : Int)) rfl rfl) rfl (Ch.mv rfl rfl (Ch.nil ?_))))
   refine ⟨k - 1, _, by omega, (Ent.of [0, 1] ?_ ?_ ?_ ?_).se, 1, o, ⟨by omega, (by rw [← hR]; show betterJ 1 _ _ = betterJ 1 _ (betterJ 0 _ _); rw [hs]; first | rfl | done)⟩, rfl⟩
   · exact na_of hnA rfl
   · (repeat (first | exact trivial | (refine ⟨⟨(by trivial), _, rfl, .rfl _⟩, ?_⟩)))
   · (repeat (first | exact trivial | (refine ⟨⟨rfl, (by first | trivial | (simp; first | done | fail)), (by first | rfl | (simp [pend_ren]; first | done | fail))⟩, ?_⟩)))
   exact nd_of rfl
  ·
   have hs := hq
   refine WP.rs hG (Ch.mv rfl rfl (Ch.mv rfl rfl (Ch.mv rfl rfl (Ch.p1 rfl (OpS.nilCheckP) rfl (Ch.p1 rfl (OpS.fieldAddr rfl rfl rfl rfl) rfl (Ch.p2 rfl rfl (OpS.indexAddrP (sz := 2) rfl rfl rfl (by omega) (by omega)) rfl ?_))))))
   refine Ch.cH (now0_fc d) [0] 2 gdN (.cons rfl .nil) (.c (.rfl _) .n) rfl (by refine ⟨?_, ?_, ?_, ?_⟩ <;> first | ((conv => lhs; simp only [nrmA, Nat.reduceAdd, pend_ren]); all_goals rfl) | rfl) (by exact ⟨rfl, trivial⟩) (by exact trivial) rfl ?_
   refine Ch.callP (hT) gdN (.cons rfl (.cons rfl .nil)) (.c (.rfl _) (.c (.rfl _) .n)) (by rfl) rfl ?_
   refine Ch.mv rfl rfl (Ch.p1 rfl (OpS.extract rfl) rfl (Ch.p1 rfl (OpS.extract rfl) rfl (Ch.p1 rfl (OpS.extract rfl) rfl (Ch.asg rfl rfl (Ch.asg rfl rfl (Ch.asg rfl rfl (Ch.nil (WP.rs hG (Ch.mv rfl rfl ?_)))))))))
   refine Ch.mv rfl rfl (Ch.gm rfl rfl rfl rfl (Ch.gm rfl rfl rfl rfl (Ch.g1 rfl rfl rfl (OpS.nilCheckP) rfl (Ch.g1 rfl rfl rfl (OpS.fieldAddr rfl rfl rfl rfl) rfl (Ch.pu (by exact gdT rfl rfl) (by exact ⟨rfl, trivial⟩) (OpS.loadP rfl rfl rfl) (by exact ⟨rfl, trivial⟩) rfl ?_)))))
   refine Ch.g2 rfl rfl rfl rfl (OpS.gtrF (by omega)) rfl ?_
   refine Ch.p2 rfl rfl (OpS.pickT) rfl (Ch.nil (WP.cond_false rfl (WP.skip (WP.rg hG (Ch.p2 rfl rfl (OpS.int (v' := .int .i64 ((1 : Nat) : Int)) rfl rfl) rfl (Ch.mv rfl rfl (Ch.nil ?_)))))))
   refine ⟨k - 1, _, by omega, (Ent.of [0, 1] ?_ ?_ ?_ ?_).se, 1, o, ⟨by omega, (by rw [← hR]; show betterJ 1 _ _ = betterJ 1 _ (betterJ 0 _ _); rw [hs.2]; first | rfl | done)⟩, rfl⟩
   · exact na_of hnA rfl
   · (repeat (first | exact trivial | (refine ⟨⟨(by trivial), _, rfl, .rfl _⟩, ?_⟩)))
   · (repeat (first | exact trivial | (refine ⟨⟨rfl, (by first | trivial | (simp; first | done | fail)), (by first | rfl | (simp [pend_ren]; first | done | fail))⟩, ?_⟩)))
   exact nd_of rfl
  have hs := hq
  refine WP.rs hG (Ch.mv rfl rfl (Ch.mv rfl rfl (Ch.mv rfl rfl (Ch.p1 rfl (OpS.nilCheckP) rfl (Ch.p1 rfl (OpS.fieldAddr rfl rfl rfl rfl) rfl (Ch.p2 rfl rfl (OpS.indexAddrP (sz := 2) rfl rfl rfl (by omega) (by omega)) rfl ?_))))))
  refine Ch.cH (now0_fc d) [0] 2 gdN (.cons rfl .nil) (.c (.rfl _) .n) rfl (by refine ⟨?_, ?_, ?_, ?_⟩ <;> first | ((conv => lhs; simp only [nrmA, Nat.reduceAdd, pend_ren]); all_goals rfl) | rfl) (by exact ⟨rfl, trivial⟩) (by exact trivial) rfl ?_
  refine Ch.callP (hT) gdN (.cons rfl (.cons rfl .nil)) (.c (.rfl _) (.c (.rfl _) .n)) (by rfl) rfl ?_
  refine Ch.mv rfl rfl (Ch.p1 rfl (OpS.extract rfl) rfl (Ch.p1 rfl (OpS.extract rfl) rfl (Ch.p1 rfl (OpS.extract rfl) rfl (Ch.asg rfl rfl (Ch.asg rfl rfl (Ch.asg rfl rfl (Ch.nil (WP.rs hG (Ch.mv rfl rfl ?_)))))))))
  refine Ch.mv rfl rfl (Ch.gm rfl rfl rfl rfl (Ch.gm rfl rfl rfl rfl (Ch.g1 rfl rfl rfl (OpS.nilCheckP) rfl (Ch.g1 rfl rfl rfl (OpS.fieldAddr rfl rfl rfl rfl) rfl (Ch.pu (by exact gdT rfl rfl) (by exact ⟨rfl, trivial⟩) (OpS.loadP rfl rfl rfl) (by exact ⟨rfl, trivial⟩) rfl ?_)))))
  refine Ch.g2 rfl rfl rfl rfl (OpS.gtrT (by omega)) rfl ?_
  refine Ch.p2 rfl rfl (OpS.pickT) rfl (Ch.nil (WP.cond_true rfl (WP.rg hG (Ch.mv rfl rfl (Ch.mv rfl rfl (Ch.mv rfl rfl (Ch.mv rfl rfl (Ch.p1 rfl (OpS.nilCheckP) rfl (Ch.p1 rfl (OpS.fieldAddr rfl rfl rfl rfl) rfl ?_)))))))))
  refine Ch.ws rfl rfl (OpS.storeP (cs := jC o.2 o.1 false) rfl rfl rfl (by simp)) rfl ?_
  refine Ch.p1 rfl (OpS.nilCheckP) rfl (Ch.p1 rfl (OpS.fieldAddr rfl rfl rfl rfl) rfl (Ch.ws rfl rfl (OpS.storeP (cs := jC o.2 c false) rfl rfl rfl (by simp)) rfl ?_))
  refine Ch.nil (WP.rg hG (Ch.p2 rfl rfl (OpS.int (v' := .int .i64 ((1 : Nat) : Int)) rfl rfl) rfl (Ch.mv rfl rfl (Ch.nil ?_))))
  refine ⟨k - 1, _, by omega, (Ent.of [0, 1] ?_ ?_ ?_ ?_).se, 1, (c, t), ⟨by omega, (by rw [← hR]; show betterJ 1 _ _ = betterJ 1 _ (betterJ 0 _ _); rw [hs.2]; first | rfl | done)⟩, rfl⟩
  · exact na_of hnA rfl
  · (repeat (first | exact trivial | (refine ⟨⟨(by trivial), _, rfl, .rfl _⟩, ?_⟩)))
  · (repeat (first | exact trivial | (refine ⟨⟨rfl, (by first | trivial | (simp; first | done | fail)), (by first | rfl | (simp [pend_ren]; first | done | fail))⟩, ?_⟩)))
  exact nd_of rfl
 ·
  have hs := hq
  refine WP.rs hG (Ch.p2 rfl rfl (OpS.int (v' := .bool true) rfl rfl) rfl (Ch.nil (WP.seq (WP.cond_true rfl (WP.skip (WP.seq (WP.block (WP.rs hG (Ch.mv rfl rfl ?_)))))))))
  refine Ch.asg rfl rfl (Ch.nil ?_)
  have hT := take_fc (G := G) 1 (nw1 d) (by decide) hn1
  obtain ⟨c, t, ok, hk⟩ : ∃ c t ok, takeJ 1 (nw1 d) = (c, t, ok) := ⟨_, _, _, rfl⟩
  have hu1 : U64 c = (c.toNat : Int) := rfl
  have hu2 : U64 o.1 = (o.1.toNat : Int) := rfl
  have hbs := better_split 1 (nw1 d) o c t ok hk
  rw [hk] at hT
  replace hT : FC Tryz.prog G 76 _ [] (.tup [.v (.int .u64 (U64 c)), sA t, .v (.bool ok)]) [] := hT
  rcases hbs with ⟨rfl, hq⟩ | ⟨rfl, hq⟩ | ⟨rfl, hq⟩
  ·
   have hs := hq
   refine WP.rs hG (Ch.mv rfl rfl (Ch.mv rfl rfl (Ch.mv rfl rfl (Ch.p1 rfl (OpS.nilCheckP) rfl (Ch.p1 rfl (OpS.fieldAddr rfl rfl rfl rfl) rfl (Ch.p2 rfl rfl (OpS.indexAddrP (sz := 2) rfl rfl rfl (by omega) (by omega)) rfl ?_))))))
   refine Ch.cH (now1_fc d) [0] 2 gdN (.cons rfl .nil) (.c (.rfl _) .n) rfl (by refine ⟨?_, ?_, ?_, ?_⟩ <;> first | ((conv => lhs; simp only [nrmA, Nat.reduceAdd, pend_ren]); all_goals rfl) | rfl) (by exact ⟨rfl, trivial⟩) (by exact trivial) rfl ?_
   refine Ch.callP (hT) gdN (.cons rfl (.cons rfl .nil)) (.c (.rfl _) (.c (.rfl _) .n)) (by rfl) rfl ?_
   refine Ch.mv rfl rfl (Ch.p1 rfl (OpS.extract rfl) rfl (Ch.p1 rfl (OpS.extract rfl) rfl (Ch.p1 rfl (OpS.extract rfl) rfl (Ch.asg rfl rfl (Ch.asg rfl rfl (Ch.asg rfl rfl (Ch.nil (WP.rs hG (Ch.mv rfl rfl ?_)))))))))
   refine Ch.mv rfl rfl (Ch.skU (gdF rfl rfl rfl) rfl (Ch.skU (gdF rfl rfl rfl) rfl (Ch.skU (gdF rfl rfl rfl) rfl (Ch.skU (gdF rfl rfl rfl) rfl (Ch.skU (gdF rfl rfl rfl) rfl (Ch.skU (gdF rfl rfl rfl) rfl (Ch.p2 rfl rfl (OpS.pickF) rfl (Ch.nil (WP.cond_false rfl ?_)))))))))
   refine WP.skip (WP.rg hG (Ch.p2 rfl rfl (OpS.int (v' := .int .i64 ((2 : Nat) : Int)) rfl rfl) rfl (Ch.mv rfl rfl (Ch.nil ?_))))
   refine ⟨k - 1, _, by omega, (Ent.of [0, 1] ?_ ?_ ?_ ?_).se, 2, o, ⟨by omega, (by rw [← hR]; show _ = betterJ 1 _ _; rw [hs]; first | rfl | done)⟩, rfl⟩
   · exact na_of hnA rfl
   · (repeat (first | exact trivial | (refine ⟨⟨(by trivial), _, rfl, .rfl _⟩, ?_⟩)))
   · (repeat (first | exact trivial | (refine ⟨⟨rfl, (by first | trivial | (simp; first | done | fail)), (by first | rfl | (simp [pend_ren]; first | done | fail))⟩, ?_⟩)))
   exact nd_of rfl
  ·
   have hs := hq
   refine WP.rs hG (Ch.mv rfl rfl (Ch.mv rfl rfl (Ch.mv rfl rfl (Ch.p1 rfl (OpS.nilCheckP) rfl (Ch.p1 rfl (OpS.fieldAddr rfl rfl rfl rfl) rfl (Ch.p2 rfl rfl (OpS.indexAddrP (sz := 2) rfl rfl rfl (by omega) (by omega)) rfl ?_))))))
   refine Ch.cH (now1_fc d) [0] 2 gdN (.cons rfl .nil) (.c (.rfl _) .n) rfl (by refine ⟨?_, ?_, ?_, ?_⟩ <;> first | ((conv => lhs; simp only [nrmA, Nat.reduceAdd, pend_ren]); all_goals rfl) | rfl) (by exact ⟨rfl, trivial⟩) (by exact trivial) rfl ?_
   refine Ch.callP (hT) gdN (.cons rfl (.cons rfl .nil)) (.c (.rfl _) (.c (.rfl _) .n)) (by rfl) rfl ?_
   refine Ch.mv rfl rfl (Ch.p1 rfl (OpS.extract rfl) rfl (Ch.p1 rfl (OpS.extract rfl) rfl (Ch.p1 rfl (OpS.extract rfl) rfl (Ch.asg rfl rfl (Ch.asg rfl rfl (Ch.asg rfl rfl (Ch.nil (WP.rs hG (Ch.mv rfl rfl ?_)))))))))
   refine Ch.mv rfl rfl (Ch.gm rfl rfl rfl rfl (Ch.gm rfl rfl rfl rfl (Ch.g1 rfl rfl rfl (OpS.nilCheckP) rfl (Ch.g1 rfl rfl rfl (OpS.fieldAddr rfl rfl rfl rfl) rfl (Ch.pu (by exact gdT rfl rfl) (by exact ⟨rfl, trivial⟩) (OpS.loadP rfl rfl rfl) (by exact ⟨rfl, trivial⟩) rfl ?_)))))
   refine Ch.g2 rfl rfl rfl rfl (OpS.gtrF (by omega)) rfl ?_
   refine Ch.p2 rfl rfl (OpS.pickT) rfl (Ch.nil (WP.cond_false rfl (WP.skip (WP.rg hG (Ch.p2 rfl rfl (OpS.int (v' := .int .i64 ((2 : Nat) : Int)) rfl rfl) rfl (Ch.mv rfl rfl (Ch.nil ?_)))))))
   refine ⟨k - 1, _, by omega, (Ent.of [0, 1] ?_ ?_ ?_ ?_).se, 2, o, ⟨by omega, (by rw [← hR]; show _ = betterJ 1 _ _; rw [hs.2]; first | rfl | done)⟩, rfl⟩
   · exact na_of hnA rfl
   · (repeat (first | exact trivial | (refine ⟨⟨(by trivial), _, rfl, .rfl _⟩, ?_⟩)))
   · (repeat (first | exact trivial | (refine ⟨⟨rfl, (by first | trivial | (simp; first | done | fail)), (by first | rfl | (simp [pend_ren]; first | done | fail))⟩, ?_⟩)))
   exact nd_of rfl
  have hs := hq
  refine WP.rs hG (Ch.mv rfl rfl (Ch.mv rfl rfl (Ch.mv rfl rfl (Ch.p1 rfl (OpS.nilCheckP) rfl (Ch.p1 rfl (OpS.fieldAddr rfl rfl rfl rfl) rfl (Ch.p2 rfl rfl (OpS.indexAddrP (sz := 2) rfl rfl rfl (by omega) (by omega)) rfl ?_))))))
  refine Ch.cH (now1_fc d) [0] 2 gdN (.cons rfl .nil) (.c (.rfl _) .n) rfl (by refine ⟨?_, ?_, ?_, ?_⟩ <;> first | ((conv => lhs; simp only [nrmA, Nat.reduceAdd, pend_ren]); all_goals rfl) | rfl) (by exact ⟨rfl, trivial⟩) (by exact trivial) rfl ?_
  refine Ch.callP (hT) gdN (.cons rfl (.cons rfl .nil)) (.c (.rfl _) (.c (.rfl _) .n)) (by rfl) rfl ?_
  refine Ch.mv rfl rfl (Ch.p1 rfl (OpS.extract rfl) rfl (Ch.p1 rfl (OpS.extract rfl) rfl (Ch.p1 rfl (OpS.extract rfl) rfl (Ch.asg rfl rfl (Ch.asg rfl rfl (Ch.asg rfl rfl (Ch.nil (WP.rs hG (Ch.mv rfl rfl ?_)))))))))
  refine Ch.mv rfl rfl (Ch.gm rfl rfl rfl rfl (Ch.gm rfl rfl rfl rfl (Ch.g1 rfl rfl rfl (OpS.nilCheckP) rfl (Ch.g1 rfl rfl rfl (OpS.fieldAddr rfl rfl rfl rfl) rfl (Ch.pu (by exact gdT rfl rfl) (by exact ⟨rfl, trivial⟩) (OpS.loadP rfl rfl rfl) (by exact ⟨rfl, trivial⟩) rfl ?_)))))
  refine Ch.g2 rfl rfl rfl rfl (OpS.gtrT (by omega)) rfl ?_
  refine Ch.p2 rfl rfl (OpS.pickT) rfl (Ch.nil (WP.cond_true rfl (WP.rg hG (Ch.mv rfl rfl (Ch.mv rfl rfl (Ch.mv rfl rfl (Ch.mv rfl rfl (Ch.p1 rfl (OpS.nilCheckP) rfl (Ch.p1 rfl (OpS.fieldAddr rfl rfl rfl rfl) rfl ?_)))))))))
  refine Ch.ws rfl rfl (OpS.storeP (cs := jC o.2 o.1 false) rfl rfl rfl (by simp)) rfl ?_
  refine Ch.p1 rfl (OpS.nilCheckP) rfl (Ch.p1 rfl (OpS.fieldAddr rfl rfl rfl rfl) rfl (Ch.ws rfl rfl (OpS.storeP (cs := jC o.2 c false) rfl rfl rfl (by simp)) rfl ?_))
  refine Ch.nil (WP.rg hG (Ch.p2 rfl rfl (OpS.int (v' := .int .i64 ((2 : Nat) : Int)) rfl rfl) rfl (Ch.mv rfl rfl (Ch.nil ?_))))
  refine ⟨k - 1, _, by omega, (Ent.of [0, 1] ?_ ?_ ?_ ?_).se, 2, (c, t), ⟨by omega, (by rw [← hR]; show _ = betterJ 1 _ _; rw [hs.2]; first | rfl | done)⟩, rfl⟩
  · exact na_of hnA rfl
  · (repeat (first | exact trivial | (refine ⟨⟨(by trivial), _, rfl, .rfl _⟩, ?_⟩)))
  · (repeat (first | exact trivial | (refine ⟨⟨rfl, (by first | trivial | (simp; first | done | fail)), (by first | rfl | (simp [pend_ren]; first | done | fail))⟩, ?_⟩)))
  exact nd_of rfl
 have hs := hq
 refine WP.rs hG (Ch.p2 rfl rfl (OpS.int (v' := .bool false) rfl rfl) rfl (Ch.nil (WP.seq (WP.cond_false rfl (WP.exit (WP.rs hG (Ch.mv rfl rfl (Ch.asg rfl rfl (Ch.nil ?_)))))))))
 refine WP.ret ?_
 rw [← hR]
 refine (Ret.of (rs := [2]) (vs := [.ptr 1 0]) (H' := djH d o.2 o.1 false) (res := .ptr 1 0) [0, 1] ?_ ?_ rfl ?_ (by simp only [List.length_cons, List.length_nil]; decide) ?_).1
 · exact na_of hnA rfl
 · (repeat (first | exact trivial | (refine ⟨⟨(by trivial), _, rfl, .rfl _⟩, ?_⟩)))
 · (repeat (first | exact trivial | refine HFromL.skip ?_ | (refine ⟨⟨(by first | trivial | (simp; first | done | fail)), (by first | rfl | (simp [pend_ren]; first | done | fail))⟩, ?_⟩)))
 rfl
theorem last_fc (d : Dk) (s : List UInt8) (c : UInt64) (lost : Bool) : FC Tryz.prog G 53 [.ptr 1 0] (djH d s c lost) (sA s) (djH d s c lost) := by
 refine FC.of_wp [2] Tryz.func53 rfl rfl rfl rfl ⟨rfl, trivial⟩ (dj_bel _ rfl _ _ _ _) (Nat.le_of_ble_eq_true rfl) ?_
 intro A hG hnA hAB
 unfold start
 refine WP.rs hG (Ch.asg rfl rfl (Ch.nil (WP.rs hG (Ch.mv rfl rfl (Ch.p1 rfl (OpS.nilCheckP) rfl (Ch.p1 rfl (OpS.fieldAddr rfl rfl rfl rfl) rfl (Ch.q1 rfl (OpS.loadP rfl rfl rfl) rfl rfl (Ch.asg rfl rfl (Ch.nil ?_)))))))))
 refine WP.ret ?_
 refine (Ret.of (rs := [2]) (vs := [sA s]) (H' := djH d s c lost) (res := sA s) [0, 1] ?_ ?_ rfl ?_ (by simp only [List.length_cons, List.length_nil]; decide) ?_).1
 · exact na_of hnA rfl
 · (repeat (first | exact trivial | (refine ⟨⟨(by trivial), _, rfl, .rfl _⟩, ?_⟩)))
 · (repeat (first | exact trivial | refine HFromL.skip ?_ | (refine ⟨⟨(by first | trivial | (simp; first | done | fail)), (by first | rfl | (simp [pend_ren]; first | done | fail))⟩, ?_⟩)))
 rfl
end
end Go.Proofs.YtpnbpcopdckgpaaGreatDoor.E
namespace Go.Proofs.YtpnbpcopdckgpaaGreatDoor.E
open Go Go.RowKit V
set_option maxRecDepth 4000
theorem wr_succ (c : UInt64) : Value.int .u64 (IntKind.u64.wrap (U64 c + 1)) = .int .u64 (U64 (c + 1)) := by
 rw [IntKind.wrap_u64]
 unfold U64
 rw [UInt64.toNat_add, show (1 : UInt64).toNat = 1 from rfl]
 exact congrArg (Value.int .u64) (by omega)
section
variable {G : List (Nat × Array Value)}
theorem saveW_fc (d : Dk) (hw : Wf d) (hd : d.dead = false) (s0 : List UInt8) (c : UInt64) (s : List UInt8) (hs' : s.length ≤ 200) (k : Nat) (hk : (c + 1).toNat % 2 = k) (e1 : Dk) (h1 : e1 = actD (wrD k (layJ (c + 1) s) d)) (he : e1.dead = true) :
  FC Tryz.prog G 137 [.ptr 1 0, sA s] (djH d s0 c false) (.v (.int .i64 120)) (djH e1 s0 c true) := by
 have hwr := write_fc (G := G) k (by omega) d (layJ (c + 1) s) (layJ_length _ _ (by omega)) hw hd
 rw [← h1, show errS e1 = 120 from if_pos he] at hwr
 have hlay := jlay_fc (G := G) (c + 1) s hs'
 have hU : U64 (c + 1) = ((c + 1).toNat : Int) := rfl
 refine FC.of_wp [4] Tryz.func137 rfl rfl rfl rfl ⟨rfl, trivial, trivial⟩ (dj_bel _ rfl _ _ _ _) (Nat.le_of_ble_eq_true rfl) ?_
 intro A hG hnA hAB
 unfold start
 refine WP.rs hG (Ch.asg rfl rfl (Ch.nil (WP.seq (WP.rs hG (Ch.mv rfl rfl (Ch.p1 rfl (OpS.lenS rfl) rfl (Ch.p2 rfl rfl (OpS.int (v' := .bool false) rfl (by exact congrArg Value.bool (decide_eq_false (by omega)))) rfl ?_)))))))
 refine Ch.nil (WP.cond_false rfl (WP.skip (WP.seq (WP.rs hG (Ch.mv rfl rfl (Ch.p1 rfl (OpS.nilCheckP) rfl (Ch.p1 rfl (OpS.fieldAddr rfl rfl rfl rfl) rfl (Ch.q1 rfl (OpS.loadP rfl rfl rfl) rfl rfl (Ch.mv rfl rfl ?_)))))))))
 refine Ch.gm rfl rfl rfl rfl (Ch.g1 rfl rfl rfl (OpS.nilCheckP) rfl (Ch.g1 rfl rfl rfl (OpS.fieldAddr rfl rfl rfl rfl) rfl (Ch.pu (by exact gdT rfl rfl) (by exact ⟨rfl, trivial⟩) (OpS.loadP rfl rfl rfl) (by exact ⟨rfl, trivial⟩) rfl ?_)))
 refine Ch.g1 rfl rfl rfl (OpS.nilCheckP) rfl (Ch.g1 rfl rfl rfl (OpS.fieldAddr rfl rfl rfl rfl) rfl (Ch.pu (by exact gdT rfl rfl) (by exact ⟨rfl, trivial⟩) (OpS.loadP rfl rfl rfl) (by exact ⟨rfl, trivial⟩) rfl ?_))
 refine Ch.p2 rfl rfl (OpS.pickF) rfl (Ch.nil ?_)
 refine WP.cond rfl ?_ ?_
 ·
  intro ht
  rw [hd] at ht; cases ht
  done
 intro ht
 skip
 refine WP.skip (WP.rs hG (Ch.mv rfl rfl (Ch.p1 rfl (OpS.nilCheckP) rfl (Ch.p1 rfl (OpS.fieldAddr rfl rfl rfl rfl) rfl (Ch.q1 rfl (OpS.loadP rfl rfl rfl) rfl rfl (Ch.p2 rfl rfl (OpS.int (v' := .int .u64 (U64 (c + 1))) rfl (wr_succ c)) rfl (Ch.asg rfl rfl (Ch.nil (WP.rsD (by kernel_rfl) hG ?_)))))))))
 refine Ch.mv rfl rfl (Ch.p1 rfl (OpS.nilCheckP) rfl (Ch.p1 rfl (OpS.fieldAddr rfl rfl rfl rfl) rfl (Ch.q1 rfl (OpS.loadP rfl rfl rfl) rfl rfl (Ch.mv rfl rfl (Ch.p2 rfl rfl (OpS.rem (by omega) (by omega)) rfl ?_)))))
 refine Ch.p1 rfl (OpS.conv (v := .int .i64 (k : Int)) rfl rfl (by rw [wr64 (by omega)]; exact congrArg (Value.int .i64) (by omega))) rfl ?_
 refine Ch.mv rfl rfl (Ch.mv rfl rfl (Ch.callP (hlay) gdN (.cons rfl (.cons rfl .nil)) (.c (.rfl _) (.c (.rfl _) .n)) (by rfl) rfl ?_))
 refine Ch.cH (hwr) [0] 2 gdN (.cons rfl (.cons rfl (.cons rfl .nil))) (.c (.rfl _) (.c (.rfl _) (.c (.rfl _) .n))) rfl (by refine ⟨?_, ?_, ?_, ?_⟩ <;> first | ((conv => lhs; simp only [nrmA, Nat.reduceAdd, pend_ren]); all_goals rfl) | rfl) (by exact ⟨rfl, trivial⟩) (by exact trivial) rfl ?_
 refine Ch.asg rfl rfl (Ch.nilD ?_ (by kernel_rfl))
 refine WP.seq (WP.rs hG (Ch.mv rfl rfl (Ch.p2 rfl rfl (OpS.int (v' := .bool false) rfl rfl) rfl (Ch.nil (WP.cond_false rfl (WP.skip (WP.seq (WP.rs hG (Ch.mv rfl rfl ?_)))))))))
 refine Ch.p2 rfl rfl (OpS.int (v' := .bool true) rfl rfl) rfl (Ch.nil (WP.cond_true rfl (WP.rs hG (Ch.mv rfl rfl (Ch.p1 rfl (OpS.nilCheckP) rfl (Ch.p1 rfl (OpS.fieldAddr rfl rfl rfl rfl) rfl (Ch.ws rfl rfl (OpS.storeP (cs := jC s0 c false) rfl rfl rfl (by simp)) rfl ?_)))))))
 refine Ch.nil (WP.rs hG (Ch.asg rfl rfl (Ch.nil (WP.ret ?_))))
 refine (Ret.of (rs := [4]) (vs := [.v (.int .i64 120)]) (H' := djH e1 s0 c true) (res := .v (.int .i64 120)) [0, 1] ?_ ?_ rfl ?_ (by simp only [List.length_cons, List.length_nil]; decide) ?_).1
 · exact na_of hnA rfl
 · (repeat (first | exact trivial | (refine ⟨⟨(by trivial), _, rfl, .rfl _⟩, ?_⟩)))
 · (repeat (first | exact trivial | refine HFromL.skip ?_ | (refine ⟨⟨(by first | trivial | (simp; first | done | fail)), (by first | rfl | (simp [pend_ren]; first | done | fail))⟩, ?_⟩)))
 rfl
theorem saveS_fc (d : Dk) (hw : Wf d) (hd : d.dead = false) (s0 : List UInt8) (c : UInt64) (s : List UInt8) (hs' : s.length ≤ 200) (k : Nat) (hk : (c + 1).toNat % 2 = k) (e1 : Dk) (h1 : e1 = actD (wrD k (layJ (c + 1) s) d)) (he : e1.dead = false) (he2 : (actD e1).dead = true) :
  FC Tryz.prog G 137 [.ptr 1 0, sA s] (djH d s0 c false) (.v (.int .i64 120)) (djH (actD e1) s0 c true) := by
 have hwr := write_fc (G := G) k (by omega) d (layJ (c + 1) s) (layJ_length _ _ (by omega)) hw hd
 rw [← h1, show errS e1 = 0 from if_neg (by rw [he]; decide)] at hwr
 have hlay := jlay_fc (G := G) (c + 1) s hs'
 have hU : U64 (c + 1) = ((c + 1).toNat : Int) := rfl
 have hw1 : Wf e1 := by rw [h1]; exact (hw.wr k _ (layJ_length _ _ (by omega))).act
 have hsy := syncA_fc (G := G) e1 hw1 he he2
 refine FC.of_wp [4] Tryz.func137 rfl rfl rfl rfl ⟨rfl, trivial, trivial⟩ (dj_bel _ rfl _ _ _ _) (Nat.le_of_ble_eq_true rfl) ?_
 intro A hG hnA hAB
 unfold start
 refine WP.rs hG (Ch.asg rfl rfl (Ch.nil (WP.seq (WP.rs hG (Ch.mv rfl rfl (Ch.p1 rfl (OpS.lenS rfl) rfl (Ch.p2 rfl rfl (OpS.int (v' := .bool false) rfl (by exact congrArg Value.bool (decide_eq_false (by omega)))) rfl ?_)))))))
 refine Ch.nil (WP.cond_false rfl (WP.skip (WP.seq (WP.rs hG (Ch.mv rfl rfl (Ch.p1 rfl (OpS.nilCheckP) rfl (Ch.p1 rfl (OpS.fieldAddr rfl rfl rfl rfl) rfl (Ch.q1 rfl (OpS.loadP rfl rfl rfl) rfl rfl (Ch.mv rfl rfl ?_)))))))))
 refine Ch.gm rfl rfl rfl rfl (Ch.g1 rfl rfl rfl (OpS.nilCheckP) rfl (Ch.g1 rfl rfl rfl (OpS.fieldAddr rfl rfl rfl rfl) rfl (Ch.pu (by exact gdT rfl rfl) (by exact ⟨rfl, trivial⟩) (OpS.loadP rfl rfl rfl) (by exact ⟨rfl, trivial⟩) rfl ?_)))
 refine Ch.g1 rfl rfl rfl (OpS.nilCheckP) rfl (Ch.g1 rfl rfl rfl (OpS.fieldAddr rfl rfl rfl rfl) rfl (Ch.pu (by exact gdT rfl rfl) (by exact ⟨rfl, trivial⟩) (OpS.loadP rfl rfl rfl) (by exact ⟨rfl, trivial⟩) rfl ?_))
 refine Ch.p2 rfl rfl (OpS.pickF) rfl (Ch.nil ?_)
 refine WP.cond rfl ?_ ?_
 ·
  intro ht
  rw [hd] at ht; cases ht
  done
 intro ht
 skip
 refine WP.skip (WP.rs hG (Ch.mv rfl rfl (Ch.p1 rfl (OpS.nilCheckP) rfl (Ch.p1 rfl (OpS.fieldAddr rfl rfl rfl rfl) rfl (Ch.q1 rfl (OpS.loadP rfl rfl rfl) rfl rfl (Ch.p2 rfl rfl (OpS.int (v' := .int .u64 (U64 (c + 1))) rfl (wr_succ c)) rfl (Ch.asg rfl rfl (Ch.nil (WP.rsD (by kernel_rfl) hG ?_)))))))))
 refine Ch.mv rfl rfl (Ch.p1 rfl (OpS.nilCheckP) rfl (Ch.p1 rfl (OpS.fieldAddr rfl rfl rfl rfl) rfl (Ch.q1 rfl (OpS.loadP rfl rfl rfl) rfl rfl (Ch.mv rfl rfl (Ch.p2 rfl rfl (OpS.rem (by omega) (by omega)) rfl ?_)))))
 refine Ch.p1 rfl (OpS.conv (v := .int .i64 (k : Int)) rfl rfl (by rw [wr64 (by omega)]; exact congrArg (Value.int .i64) (by omega))) rfl ?_
 refine Ch.mv rfl rfl (Ch.mv rfl rfl (Ch.callP (hlay) gdN (.cons rfl (.cons rfl .nil)) (.c (.rfl _) (.c (.rfl _) .n)) (by rfl) rfl ?_))
 refine Ch.cH (hwr) [0] 2 gdN (.cons rfl (.cons rfl (.cons rfl .nil))) (.c (.rfl _) (.c (.rfl _) (.c (.rfl _) .n))) rfl (by refine ⟨?_, ?_, ?_, ?_⟩ <;> first | ((conv => lhs; simp only [nrmA, Nat.reduceAdd, pend_ren]); all_goals rfl) | rfl) (by exact ⟨rfl, trivial⟩) (by exact trivial) rfl ?_
 refine Ch.asg rfl rfl (Ch.nilD ?_ (by kernel_rfl))
 refine WP.seq (WP.rs hG (Ch.mv rfl rfl (Ch.p2 rfl rfl (OpS.int (v' := .bool true) rfl rfl) rfl (Ch.nil (WP.cond_true rfl (WP.rg hG (Ch.mv rfl rfl (Ch.p1 rfl (OpS.nilCheckP) rfl (Ch.p1 rfl (OpS.fieldAddr rfl rfl rfl rfl) rfl ?_)))))))))
 refine Ch.q1 rfl (OpS.loadP rfl rfl rfl) rfl rfl ?_
 refine Ch.cH (hsy) [0] 2 gdN (.cons rfl .nil) (.c (.rfl _) .n) rfl (by refine ⟨?_, ?_, ?_, ?_⟩ <;> first | ((conv => lhs; simp only [nrmA, Nat.reduceAdd, pend_ren]); all_goals rfl) | rfl) (by exact ⟨rfl, trivial⟩) (by exact trivial) rfl ?_
 refine Ch.asg rfl rfl (Ch.nil (WP.seq (WP.rs hG (Ch.mv rfl rfl (Ch.p2 rfl rfl (OpS.int (v' := .bool true) rfl rfl) rfl (Ch.nil (WP.cond_true rfl (WP.rs hG (Ch.mv rfl rfl ?_)))))))))
 refine Ch.p1 rfl (OpS.nilCheckP) rfl (Ch.p1 rfl (OpS.fieldAddr rfl rfl rfl rfl) rfl (Ch.ws rfl rfl (OpS.storeP (cs := jC s0 c false) rfl rfl rfl (by simp)) rfl ?_))
 refine Ch.nil (WP.rs hG (Ch.asg rfl rfl (Ch.nil (WP.ret ?_))))
 refine (Ret.of (rs := [4]) (vs := [.v (.int .i64 120)]) (H' := djH (actD e1) s0 c true) (res := .v (.int .i64 120)) [0, 1] ?_ ?_ rfl ?_ (by simp only [List.length_cons, List.length_nil]; decide) ?_).1
 · exact na_of hnA rfl
 · (repeat (first | exact trivial | (refine ⟨⟨(by trivial), _, rfl, .rfl _⟩, ?_⟩)))
 · (repeat (first | exact trivial | refine HFromL.skip ?_ | (refine ⟨⟨(by first | trivial | (simp; first | done | fail)), (by first | rfl | (simp [pend_ren]; first | done | fail))⟩, ?_⟩)))
 rfl
theorem saveOk_fc (d : Dk) (hw : Wf d) (hd : d.dead = false) (s0 : List UInt8) (c : UInt64) (s : List UInt8) (hs' : s.length ≤ 200) (k : Nat) (hk : (c + 1).toNat % 2 = k) (e1 : Dk) (h1 : e1 = actD (wrD k (layJ (c + 1) s) d)) (he : e1.dead = false) (he2 : (actD e1).dead = false) :
  FC Tryz.prog G 137 [.ptr 1 0, sA s] (djH d s0 c false) (.v (.int .i64 0)) (djH (st1 256 (st0 256 (actD e1))) s (c + 1) false) := by
 have hwr := write_fc (G := G) k (by omega) d (layJ (c + 1) s) (layJ_length _ _ (by omega)) hw hd
 rw [← h1, show errS e1 = 0 from if_neg (by rw [he]; decide)] at hwr
 have hlay := jlay_fc (G := G) (c + 1) s hs'
 have hU : U64 (c + 1) = ((c + 1).toNat : Int) := rfl
 have hw1 : Wf e1 := by rw [h1]; exact (hw.wr k _ (layJ_length _ _ (by omega))).act
 have hsy := sync_fc (G := G) e1 hw1 he he2
 refine FC.of_wp [4] Tryz.func137 rfl rfl rfl rfl ⟨rfl, trivial, trivial⟩ (dj_bel _ rfl _ _ _ _) (Nat.le_of_ble_eq_true rfl) ?_
 intro A hG hnA hAB
 unfold start
 refine WP.rs hG (Ch.asg rfl rfl (Ch.nil (WP.seq (WP.rs hG (Ch.mv rfl rfl (Ch.p1 rfl (OpS.lenS rfl) rfl (Ch.p2 rfl rfl (OpS.int (v' := .bool false) rfl (by exact congrArg Value.bool (decide_eq_false (by omega)))) rfl ?_)))))))
 refine Ch.nil (WP.cond_false rfl (WP.skip (WP.seq (WP.rs hG (Ch.mv rfl rfl (Ch.p1 rfl (OpS.nilCheckP) rfl (Ch.p1 rfl (OpS.fieldAddr rfl rfl rfl rfl) rfl (Ch.q1 rfl (OpS.loadP rfl rfl rfl) rfl rfl (Ch.mv rfl rfl ?_)))))))))
 refine Ch.gm rfl rfl rfl rfl (Ch.g1 rfl rfl rfl (OpS.nilCheckP) rfl (Ch.g1 rfl rfl rfl (OpS.fieldAddr rfl rfl rfl rfl) rfl (Ch.pu (by exact gdT rfl rfl) (by exact ⟨rfl, trivial⟩) (OpS.loadP rfl rfl rfl) (by exact ⟨rfl, trivial⟩) rfl ?_)))
 refine Ch.g1 rfl rfl rfl (OpS.nilCheckP) rfl (Ch.g1 rfl rfl rfl (OpS.fieldAddr rfl rfl rfl rfl) rfl (Ch.pu (by exact gdT rfl rfl) (by exact ⟨rfl, trivial⟩) (OpS.loadP rfl rfl rfl) (by exact ⟨rfl, trivial⟩) rfl ?_))
 refine Ch.p2 rfl rfl (OpS.pickF) rfl (Ch.nil ?_)
 refine WP.cond rfl ?_ ?_
 ·
  intro ht
  rw [hd] at ht; cases ht
  done
 intro ht
 skip
 refine WP.skip (WP.rs hG (Ch.mv rfl rfl (Ch.p1 rfl (OpS.nilCheckP) rfl (Ch.p1 rfl (OpS.fieldAddr rfl rfl rfl rfl) rfl (Ch.q1 rfl (OpS.loadP rfl rfl rfl) rfl rfl (Ch.p2 rfl rfl (OpS.int (v' := .int .u64 (U64 (c + 1))) rfl (wr_succ c)) rfl (Ch.asg rfl rfl (Ch.nil (WP.rsD (by kernel_rfl) hG ?_)))))))))
 refine Ch.mv rfl rfl (Ch.p1 rfl (OpS.nilCheckP) rfl (Ch.p1 rfl (OpS.fieldAddr rfl rfl rfl rfl) rfl (Ch.q1 rfl (OpS.loadP rfl rfl rfl) rfl rfl (Ch.mv rfl rfl (Ch.p2 rfl rfl (OpS.rem (by omega) (by omega)) rfl ?_)))))
 refine Ch.p1 rfl (OpS.conv (v := .int .i64 (k : Int)) rfl rfl (by rw [wr64 (by omega)]; exact congrArg (Value.int .i64) (by omega))) rfl ?_
 refine Ch.mv rfl rfl (Ch.mv rfl rfl (Ch.callP (hlay) gdN (.cons rfl (.cons rfl .nil)) (.c (.rfl _) (.c (.rfl _) .n)) (by rfl) rfl ?_))
 refine Ch.cH (hwr) [0] 2 gdN (.cons rfl (.cons rfl (.cons rfl .nil))) (.c (.rfl _) (.c (.rfl _) (.c (.rfl _) .n))) rfl (by refine ⟨?_, ?_, ?_, ?_⟩ <;> first | ((conv => lhs; simp only [nrmA, Nat.reduceAdd, pend_ren]); all_goals rfl) | rfl) (by exact ⟨rfl, trivial⟩) (by exact trivial) rfl ?_
 refine Ch.asg rfl rfl (Ch.nilD ?_ (by kernel_rfl))
 refine WP.seq (WP.rs hG (Ch.mv rfl rfl (Ch.p2 rfl rfl (OpS.int (v' := .bool true) rfl rfl) rfl (Ch.nil (WP.cond_true rfl (WP.rg hG (Ch.mv rfl rfl (Ch.p1 rfl (OpS.nilCheckP) rfl (Ch.p1 rfl (OpS.fieldAddr rfl rfl rfl rfl) rfl ?_)))))))))
 refine Ch.q1 rfl (OpS.loadP rfl rfl rfl) rfl rfl ?_
 refine Ch.cH (hsy) [0] 2 gdN (.cons rfl .nil) (.c (.rfl _) .n) rfl (by refine ⟨?_, ?_, ?_, ?_⟩ <;> first | ((conv => lhs; simp only [nrmA, Nat.reduceAdd, pend_ren]); all_goals rfl) | rfl) (by exact ⟨rfl, trivial⟩) (by exact trivial) rfl ?_
 refine Ch.asg rfl rfl (Ch.nil (WP.seq (WP.rs hG (Ch.mv rfl rfl (Ch.p2 rfl rfl (OpS.int (v' := .bool false) rfl rfl) rfl (Ch.nil (WP.cond_false rfl (WP.skip (WP.rs hG ?_)))))))))
 refine Ch.mv rfl rfl (Ch.mv rfl rfl (Ch.mv rfl rfl (Ch.mv rfl rfl (Ch.p1 rfl (OpS.nilCheckP) rfl (Ch.p1 rfl (OpS.fieldAddr rfl rfl rfl rfl) rfl (Ch.ws rfl rfl (OpS.storeP (cs := jC s0 c false) rfl rfl rfl (by simp)) rfl ?_))))))
 refine Ch.p1 rfl (OpS.nilCheckP) rfl (Ch.p1 rfl (OpS.fieldAddr rfl rfl rfl rfl) rfl (Ch.ws rfl rfl (OpS.storeP (cs := jC s0 (c + 1) false) rfl rfl rfl (by simp)) rfl ?_))
 refine Ch.nil (WP.rs hG (Ch.asg rfl rfl (Ch.nil (WP.ret ?_))))
 refine (Ret.of (rs := [4]) (vs := [.v (.int .i64 0)]) (H' := djH (st1 256 (st0 256 (actD e1))) s (c + 1) false) (res := .v (.int .i64 0)) [0, 1] ?_ ?_ rfl ?_ (by simp only [List.length_cons, List.length_nil]; decide) ?_).1
 · exact na_of hnA rfl
 · (repeat (first | exact trivial | (refine ⟨⟨(by trivial), _, rfl, .rfl _⟩, ?_⟩)))
 · (repeat (first | exact trivial | refine HFromL.skip ?_ | (refine ⟨⟨(by first | trivial | (simp; first | done | fail)), (by first | rfl | (simp [pend_ren]; first | done | fail))⟩, ?_⟩)))
 rfl
end
end Go.Proofs.YtpnbpcopdckgpaaGreatDoor.E
