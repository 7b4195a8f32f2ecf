import Derived.Test.YtpnbpcopdckgpaaGreatDoorProg
import Derived.Test.YtpnbpcopdckgpaaGreatDoorZ1dc047f2
import Derived.Test.YtpnbpcopdckgpaaGreatDoorZa71524db
import Derived.Test.YtpnbpcopdckgpaaGreatDoorZb1546aba
namespace Go.Proofs.YtpnbpcopdckgpaaGreatDoor.V
open Go Go.RowKit
theorem u8info : (Tryz.prog.info? 5).map (fun i => (i.zero, i.size, i.bytes)) = some (some (.int .u8 0), 1, 1) := by kernel_rfl
theorem u32size : (Tryz.prog.info? 120).map (·.size) = some 1 := by kernel_rfl
def obytes (w : World) (base : Nat) (v : Value) (l : List UInt8) : Prop := w.ownsRow base 5 1 v l.length (bvs l)
theorem obytes_nil (w : World) (base : Nat) : obytes w base (.slice none 0 0) [] := World.ownsRow_nil w base _ 1
theorem obytes.kept {w w' : World} {base : Nat} {v : Value} {l : List UInt8} (h : obytes w base v l) {S : List Nat} (hf : Fr S w w') (hS : ∀ k, v.ownBlock = some k → k ∉ S) : obytes w' base v l := hf.own h hS
theorem Src.new {w : World} (tx e' : TypeId) (hk : Tryz.prog.underlying tx = some (.slice e')) (cs : Array Value) (e : TypeId) (h1 : ∀ u ∈ cs.toList, u.oneCell' = true) :
  Src Tryz.prog 1 tx (.slice (some ⟨w.heap.size, 0, none⟩) cs.size cs.size) cs.size cs.toList (w.alloc (.cells cs e)) := by
 refine Src.ofSlice _ hk ⟨w.heap.size, 0, none⟩ cs.size cs.size cs.toList (by simp) ?_ h1
 intro j u hu
 have hadd : (⟨w.heap.size, 0, none⟩ : Addr).add j = ⟨w.heap.size, j, none⟩ := by unfold Addr.add; split <;> simp_all
 rw [hadd, World.cell?_alloc_at _ _ _ _ rfl]
 simpa using hu
theorem obytes.src {w : World} {base : Nat} {v : Value} {l : List UInt8} (h : obytes w base v l) : Src Tryz.prog 1 70 v l.length (bvs l) w := by
 rcases h.2 with ⟨rfl, h0⟩ | ⟨g, cap, cur, rfl, hbg, hg, hnc, hcm, hcs, htake⟩
 ·
  obtain rfl : l = [] := List.eq_nil_of_length_eq_zero h0
  exact Src.ofNil w Tryz.underlying70 0
 exact Src.ofSlice w Tryz.underlying70 ⟨g, 0, none⟩ l.length cap (bvs l) (by simp [bvs_length]) (World.ownsRow.cells h (g := g) rfl) (bvs_one l)
theorem obytes.lt {w : World} {base : Nat} {v : Value} {l : List UInt8} (h : obytes w base v l) : ∀ k, v.ownBlock = some k → base ≤ k ∧ k < w.heap.size := World.ownsRow.lt h
theorem obytes.slice {w : World} {base : Nat} {v : Value} {l : List UInt8} (h : obytes w base v l) : ∃ g cap, v = .slice g l.length cap := by
 rcases h.2 with ⟨hv, h0⟩ | ⟨g, cap, cur, hv, _⟩
 · exact ⟨_, _, by rw [h0]; exact hv⟩
 exact ⟨_, _, hv⟩
theorem obytes.text {w : World} {base : Nat} {v : Value} {l : List UInt8} (h : obytes w base v l) : (convert 70 9 v).run Tryz.prog w = .ok (.string (B l)) w := by
 rcases h.2 with ⟨rfl, h0⟩ | ⟨g, cap, cur, rfl, hbg, hg, hnc, hcm, hcs, htake⟩
 ·
  obtain rfl : l = [] := List.eq_nil_of_length_eq_zero h0
  exact run_b2s_nil w _ _ 5 Tryz.underlying70 Tryz.underlying5 Tryz.underlying9 0 0
 exact run_b2s w _ _ 5 Tryz.underlying70 Tryz.underlying5 Tryz.underlying9 ⟨g, 0, none⟩ cap l (World.ownsRow.cells h (g := g) rfl)
theorem wpList_ap_bytes {ops : Array Oper} {rest : List Oper} {o : Oper} {a : Act} {Q : Exit → Act → World → Prop} {w : World} (hgd : o.guard = none) (s x : Operand) (tx : TypeId)
  (ho : o.op = .call { callee := .builtin .append, args := #[s, x], argTypes := #[70, tx] })
  (base : Nat) (v : Value) (l : List UInt8) (hv : a.eval s = v) (hown : obytes w base v l) (xv : Value) (m : List UInt8) (n : Nat) (hx : a.eval x = xv) (hs : Src Tryz.prog 1 tx xv n (bvs m) w)
  (hb : l.length + m.length ≤ 140737488355328) (hbase : base ≤ w.heap.size)
  (h : ∀ v' w', obytes w' base v' (l ++ m) → w.grownBy w' v.ownBlock → (v'.ownBlock = v.ownBlock ∨ v'.ownBlock = some w.heap.size) → wpList Tryz.prog ops Q rest (a.put o.dst v') w') : wpList Tryz.prog ops Q (o :: rest) a w := by
 obtain ⟨i, hi, hz, hs1, hb1⟩ := info_parts u8info
 have hn : n = m.length := by have := hs.newsLen; rw [bvs_length] at this; omega
 subst hn
 refine wpList_plain hgd fun K hK => wp_append_any w s x 70 tx ho base 5 i (.int .u8 0) 1 1 Tryz.underlying70 hi hz hs1 hb1 rfl (by decide) v l.length (bvs l) hv hown xv m.length (bvs m) hx hs
  (by unfold maxLen; omega) (by omega) hbase ?_
 intro v' w' h1 h2 h3
 refine hK _ _ (h v' w' ?_ h2 h3)
 unfold obytes
 rw [List.length_append, bvs_append]
 exact h1
theorem bvs_zeros (m : Nat) : bvs (List.replicate m 0) = List.replicate m (.int .u8 0) := by simp [bvs, bv, U8]
theorem wpList_ap_zeros {ops : Array Oper} {rest : List Oper} {o : Oper} {a : Act} {Q : Exit → Act → World → Prop} {w : World} (hgd : o.guard = none) (s x : Operand)
  (ho : o.op = .call { callee := .builtin .append, args := #[s, x], argTypes := #[70, 3] })
  (base : Nat) (v : Value) (l : List UInt8) (hv : a.eval s = v) (hown : obytes w base v l) (m : Nat) (hx : a.eval x = .int .i64 (m : Int))
  (hb : l.length + m ≤ 140737488355328) (hbase : base ≤ w.heap.size)
  (h : ∀ v' w', obytes w' base v' (l ++ List.replicate m 0) → w.grownBy w' v.ownBlock → (v'.ownBlock = v.ownBlock ∨ v'.ownBlock = some w.heap.size) → wpList Tryz.prog ops Q rest (a.put o.dst v') w') : wpList Tryz.prog ops Q (o :: rest) a w := by
 obtain ⟨i, hi, hz, hs1, hb1⟩ := info_parts u8info
 refine wpList_plain hgd fun K hK => wp_append_zeros s x 70 3 ho base 5 .i64 i (.int .u8 0) 1 Tryz.underlying70 Tryz.underlying3 hi hz hs1 hb1 rfl rfl v l.length (bvs l) hv hown m hx
  (by unfold maxLen; omega) (by omega) hbase ?_
 intro v' w' h1 h2 h3
 refine hK _ _ (h v' w' ?_ h2 h3)
 unfold obytes
 rw [List.length_append, bvs_append, bvs_zeros, List.length_replicate]
 exact h1
end Go.Proofs.YtpnbpcopdckgpaaGreatDoor.V
namespace Go.Proofs.YtpnbpcopdckgpaaGreatDoor.E
open Go Go.RowKit V
set_option maxRecDepth 4000
theorem lay_fc {G : List (Nat × Array Value)} (l : List UInt8) (x : UInt64) (size : Nat) (hs0 : 0 < size) (hs : size ≤ 8) (hl : l.length ≤ 70368744177664) :
  FC Tryz.prog G 67 [.sl (some 0) l.length (l.map bA), .v (.int .u64 (U64 x)), .v (.int .i64 (size : Int))] [some (.tip 5 1 l.length)] (.sl (some 1) (l.length + size) ((l ++ beS x size).map bA)) [none, some (.tip 5 1 (l.length + size))] := by
 refine FC.of_wp [6] Tryz.func67 rfl rfl rfl rfl ⟨⟨fun k hk => by cases hk; rfl, belL_b _ _⟩, trivial, trivial, trivial⟩ ⟨trivial, trivial⟩ (Nat.le_of_ble_eq_true rfl) ?_
 intro A hG hnA hAB
 unfold start
 refine WP.from (SEnt.retip (t := 0) (c := 0) 1 rfl rfl rfl) (WP.rs hG (Ch.asg rfl rfl (Ch.nil (WP.seq (WP.rs hG (Ch.mv rfl rfl (Ch.p2 rfl rfl (OpS.int rfl (by exact wr64 (by omega))) rfl ?_)))))))
 refine Ch.p2 rfl rfl (OpS.int rfl (by exact wr64 (by omega))) rfl ?_
 refine Ch.asg rfl rfl (Ch.nil (WP.block ?_))
 refine WP.loop (fun k σ => ∃ (m : Nat) (at' : Int), (m + k = size ∧ at' = 8 * ((size : Int) - 1 - (m : Int))) ∧ σ = ⟨23, ls [(0, .sl (some 1) (l.length + m) ((l ++ beP x size m).map bA)), (1, .v (.int .u64 (U64 x))), (7, .v (.int .i64 at'))], lh [(1, .tip 5 1 (l.length + m))], blt 2⟩) (size) (Ent.of [] ?_ ?_ ?_ ?_).se ⟨0, 8 * ((size : Int) - 1), ⟨by omega, by omega⟩, rfl⟩ ?_
 · exact na_of hnA rfl
 · (repeat (first | exact trivial | (refine ⟨⟨(by first | trivial | (simp; first | done | fail)), _, rfl, (by first | exact .rfl _ | exact .of_eq (by simp [beP_0]; first | done | fail))⟩, ?_⟩)))
 · (repeat (first | exact trivial | (refine ⟨⟨rfl, (by trivial), (by rfl)⟩, ?_⟩)))
 · exact nd_of rfl
 rintro k σ ⟨m, at', ⟨hm, hat⟩, rfl⟩
 have hbs := beP_succ x size m
 have hbl := beP_length x size m
 have hsh := sh8 x (size - 1 - m)
 refine WP.seq (WP.rs hG (Ch.mv rfl rfl (Ch.p2 rfl rfl (OpS.int rfl (by exact rfl)) rfl ?_)))
 refine Ch.nil ?_
 refine WP.cond rfl ?_ ?_
 ·
  intro ht
  have ht' := of_decide_eq_true ht
  refine WP.skip (WP.seq (WP.block (WP.rg hG (Ch.mv rfl rfl (Ch.mv rfl rfl (Ch.mv rfl rfl (Ch.p2 rfl rfl (OpS.shr_u64 (j := 8 * (size - 1 - m)) (by omega) (by omega)) rfl ?_)))))))
  refine Ch.p1 rfl (OpS.conv rfl rfl (by exact cv_u8_u64 _)) rfl ?_
  refine Ch.pup gdN (by repeat (first | exact EvP.nil | (apply EvP.cons; exact rfl))) (OpS.slice1 rfl rfl rfl rfl rfl rfl (by rfl) rfl (by rfl)) rfl ?_
  refine Ch.a2 rfl rfl (OpS.append (sz := 1) (bb := 1) 2 rfl rfl rfl rfl rfl (by decide) (SrcA.sl rfl (by simp)) (by (simp; assumption)) (by simp) (by unfold maxLen; omega) rfl (by omega)) rfl rfl rfl ?_
  refine Ch.asg rfl rfl (Ch.nil (WP.rg hG (Ch.mv rfl rfl (Ch.p2 rfl rfl (OpS.int rfl (by exact wr64 (by omega))) rfl ?_))))
  refine Ch.asg rfl rfl (Ch.nil ?_)
  refine ⟨k - 1, _, by omega, (Ent.of [0, 2] ?_ ?_ ?_ ?_).se, m + 1, at' - 8, ⟨by omega, by omega⟩, rfl⟩
  · exact na_of hnA rfl
  · (repeat (first | exact trivial | (refine ⟨⟨(by first | trivial | (simp; first | done | fail)), _, rfl, (by first | exact .rfl _ | exact .of_eq (by simp [hbs, hsh, Nat.add_assoc]; first | done | fail))⟩, ?_⟩)))
  · (repeat (first | exact trivial | (refine ⟨⟨rfl, (by trivial), (by rfl)⟩, ?_⟩)))
  exact nd_of rfl
 intro ht
 have ht' := of_decide_eq_false ht
 obtain rfl : m = size := by omega
 refine WP.exit (WP.rs hG (Ch.mv rfl rfl (Ch.asg rfl rfl (Ch.nil (WP.ret ?_)))))
 refine (Ret.of (rs := [6]) (vs := [.sl (some 1) (l.length + m) ((l ++ beS x m).map bA)]) (H' := [none, some (.tip 5 1 (l.length + m))]) (res := .sl (some 1) (l.length + m) ((l ++ beS x m).map bA)) [0, 1] ?_ ?_ rfl ?_ (by simp only [List.length_cons, List.length_nil]; decide) ?_).1
 · exact na_of hnA rfl
 · (repeat (first | exact trivial | (refine ⟨⟨(by (simp; first | done | fail)), _, rfl, (by exact .of_eq (by simp [beS]; first | done | fail))⟩, ?_⟩)))
 · (repeat (first | exact trivial | refine HFromL.skip ?_ | (refine ⟨⟨(by trivial), (by rfl)⟩, ?_⟩)))
 rfl
abbrev wrH (l : List UInt8) : List (Option AO) := [some (.cells 115 [.sl (some 1) l.length (l.map bA)]), some (.tip 5 1 l.length)]
theorem newWriter_fc0 {G : List (Nat × Array Value)} : FC Tryz.prog G 39 [] [] (.ptr 0 0) [some (.cells 115 [.v (.slice none 0 0)])] := by
 refine FC.of_wp [0] Tryz.func39 rfl rfl rfl rfl (by trivial) (by trivial) (Nat.le_of_ble_eq_true rfl) ?_
 intro A hG hnA hAB
 unfold start
 refine WP.rs hG (Ch.asg rfl rfl (Ch.nil (WP.rs hG (Ch.pup gdN (by repeat (first | exact EvP.nil | (apply EvP.cons; exact rfl))) (OpS.build (cs := [.v (.slice none 0 0)]) rfl rfl rfl rfl rfl (by rfl)) rfl ?_))))
 refine Ch.a1 rfl (OpS.box 0 rfl) rfl rfl (Ch.asg rfl rfl (Ch.nil (WP.ret ?_)))
 refine (Ret.of (rs := [0]) (vs := [.ptr 0 0]) (H' := [some (.cells 115 [.v (.slice none 0 0)])]) (res := .ptr 0 0) [0] ?_ ?_ rfl ?_ (by simp only [List.length_cons, List.length_nil]; decide) ?_).1
 · exact na_of hnA rfl
 · (repeat (first | exact trivial | (refine ⟨⟨(by trivial), _, rfl, .rfl _⟩, ?_⟩)))
 · (repeat (first | exact trivial | refine HFromL.skip ?_ | (refine ⟨⟨(by trivial), (by rfl)⟩, ?_⟩)))
 rfl
theorem newWriter_fc {G : List (Nat × Array Value)} : FC Tryz.prog G 39 [] [] (.ptr 0 0) (wrH []) :=
 newWriter_fc0.conv (Nat.zero_le _) fun A hA _ _ => by
  refine (SEnt.nilCell (id := 0) (off := 0) 1 5 1 rfl rfl rfl rfl).trans (Ent.se (π := rn []) ⟨rfl, fun i hi => ?_, fun t v ht => ?_, fun i o hi => ?_, fun i j oi oj _ _ h => h⟩)
  · rw [hA] at hi; exact absurd hi (Nat.not_lt_zero _)
  ·
   have hm := ls_some ht
   simp only [List.mem_singleton, Prod.mk.injEq] at hm
   obtain ⟨rfl, rfl⟩ := hm
   exact ⟨rfl, _, rfl, .rfl _⟩
  match i, hi with
  | 0, hi => cases hi; exact ⟨rfl, ⟨⟨fun k hk => by cases hk; rfl, trivial⟩, trivial⟩, rfl⟩
  | 1, hi => cases hi; exact ⟨rfl, trivial, rfl⟩
  | _ + 2, hi => cases hi
theorem wNum_fc {G : List (Nat × Array Value)} (l : List UInt8) (x : UInt64) (hl : l.length ≤ 70368744177664) :
  FC Tryz.prog G 40 [.ptr 0 0, .v (.int .u64 (U64 x))] (wrH l) (.tup []) [some (.cells 115 [.sl (some 2) (l ++ beS x 8).length ((l ++ beS x 8).map bA)]), none, some (.tip 5 1 (l ++ beS x 8).length)] := by
 have hbl := beS_length x 8
 refine FC.of_wp [] Tryz.func40 rfl rfl rfl rfl ⟨rfl, trivial, trivial⟩ ⟨⟨⟨fun k hk => by cases hk; rfl, belL_b _ _⟩, trivial⟩, trivial, trivial⟩ (Nat.le_of_ble_eq_true rfl) ?_
 intro A hG hnA hAB
 unfold start
 refine WP.rg hG (Ch.mv rfl rfl (Ch.mv rfl rfl (Ch.p1 rfl (OpS.nilCheckP) rfl (Ch.p1 rfl (OpS.fieldAddr rfl rfl rfl rfl) rfl (Ch.q1 rfl (OpS.loadP rfl rfl rfl) rfl rfl (Ch.mv rfl rfl ?_))))))
 refine Ch.cH (lay_fc l x 8 (by decide) (by decide) hl) [1] 2 gdN (.cons rfl (.cons rfl (.cons rfl .nil))) (.c (AV.wk.tip rfl (by exact renL_b _ _)) (.c (.rfl _) (.c (.rfl _) .n))) rfl (by refine ⟨?_, ?_, ?_, ?_⟩ <;> first | ((conv => lhs; simp only [nrmA, Nat.reduceAdd]); all_goals rfl) | rfl) (by exact ⟨rfl, trivial⟩) (by exact ⟨rfl, trivial⟩) rfl ?_
 refine Ch.p1 rfl (OpS.nilCheckP) rfl (Ch.p1 rfl (OpS.fieldAddr rfl rfl rfl rfl) rfl (Ch.ws rfl rfl (OpS.storeP (cs := [.sl (some 1) l.length (l.map bA)]) rfl rfl rfl (by simp)) rfl ?_))
 refine Ch.nil ?_
 refine (Ret.of (rs := []) (vs := []) (H' := [some (.cells 115 [.sl (some 2) (l ++ beS x 8).length ((l ++ beS x 8).map bA)]), none, some (.tip 5 1 (l ++ beS x 8).length)]) (res := .tup []) [0, 1, 2] ?_ ?_ rfl ?_ (by simp only [List.length_cons, List.length_nil]; decide) ?_).2
 · exact na_of hnA rfl
 · (repeat (first | exact trivial | (refine ⟨⟨(by first | trivial | (simp; first | done | fail) | exact ⟨trivial, hbel _⟩), _, rfl, (by first | exact .rfl _ | exact .nil | exact .of_eq (by simp [hbl]; first | done | fail) | exact AV.wk.sh (by simp [hbl]; first | done | fail) | exact .untip _ _ _)⟩, ?_⟩)))
 · (repeat (first | exact trivial | refine HFromL.skip ?_ | (refine ⟨⟨(by first | trivial | (simp; first | done | fail)), (by (simp [hbl]; first | done | fail))⟩, ?_⟩)))
 exact ⟨_, rfl, rfl, by simp [ls, TsOk, List.zip, List.zipWith]⟩
theorem wBytes_fc {G : List (Nat × Array Value)} (l : List UInt8) : FC Tryz.prog G 42 [.ptr 0 0] (wrH l) (sA l) (wrH l) := by
 refine FC.of_wp [2] Tryz.func42 rfl rfl rfl rfl ⟨rfl, trivial⟩ ⟨⟨⟨fun k hk => by cases hk; rfl, belL_b _ _⟩, trivial⟩, trivial, trivial⟩ (Nat.le_of_ble_eq_true rfl) ?_
 intro A hG hnA hAB
 unfold start
 refine WP.rs hG (Ch.asg rfl rfl (Ch.nil (WP.rs hG (Ch.mv rfl rfl (Ch.p1 rfl (OpS.nilCheckP) rfl (Ch.p1 rfl (OpS.fieldAddr rfl rfl rfl rfl) rfl (Ch.q1 rfl (OpS.loadP rfl rfl rfl) rfl rfl (Ch.p1 rfl (OpS.b2s rfl rfl rfl (by rfl)) rfl ?_))))))))
 refine Ch.asg rfl rfl (Ch.nil (WP.ret ?_))
 refine (Ret.of (rs := [2]) (vs := [sA l]) (H' := wrH l) (res := sA l) [0, 1] ?_ ?_ rfl ?_ (by simp only [List.length_cons, List.length_nil]; decide) ?_).1
 · exact na_of hnA rfl
 · (repeat (first | exact trivial | (refine ⟨⟨(by trivial), _, rfl, .rfl _⟩, ?_⟩)))
 · (repeat (first | exact trivial | refine HFromL.skip ?_ | (refine ⟨⟨(by first | trivial | (simp; first | done | fail)), (by first | rfl | (simp; first | done | fail))⟩, ?_⟩)))
 rfl
end Go.Proofs.YtpnbpcopdckgpaaGreatDoor.E
section
namespace Go.Proofs.YtpnbpcopdckgpaaGreatDoor.E
open Go Go.RowKit Go.Proofs.YtpnbpcopdckgpaaGreatDoor.V
set_option maxRecDepth 4000
section
variable {G : List (Nat × Array Value)}
abbrev rdC (l : List UInt8) (bad : Bool) : List AV := [sA l, .v (.bool bad)]
abbrev rdH (l : List UInt8) (bad : Bool) : List (Option AO) := [some (.cells 178 (rdC l bad))]
theorem newReader_fc (l : List UInt8) : FC Tryz.prog G 78 [sA l] [] (.ptr 0 0) (rdH l false) := by
 refine FC.of_wp [2] Tryz.func78 rfl rfl rfl rfl ⟨trivial, trivial⟩ trivial (Nat.le_of_ble_eq_true rfl) ?_
 intro A hG hnA hAB
 unfold start
 refine WP.rs hG (Ch.asg rfl rfl (Ch.nil (WP.rs hG (Ch.mv rfl rfl (Ch.pup gdN (by repeat (first | exact EvP.nil | (apply EvP.cons; exact rfl))) (OpS.build (cs := rdC l false) rfl rfl rfl rfl rfl (by rfl)) rfl ?_)))))
 refine Ch.a1 rfl (OpS.box 0 rfl) rfl rfl (Ch.asg rfl rfl (Ch.nil (WP.ret ?_)))
 refine (Ret.of (rs := [2]) (vs := [.ptr 0 0]) (H' := rdH l false) (res := .ptr 0 0) [0] ?_ ?_ rfl ?_ (by simp only [List.length_cons, List.length_nil]; decide) ?_).1
 · exact na_of hnA rfl
 · (repeat (first | exact trivial | (refine ⟨⟨(by trivial), _, rfl, .rfl _⟩, ?_⟩)))
 · (repeat (first | exact trivial | refine HFromL.skip ?_ | (refine ⟨⟨(by trivial), (by rfl)⟩, ?_⟩)))
 rfl
theorem rBad_fc (l : List UInt8) (bad : Bool) : FC Tryz.prog G 116 [.ptr 0 0] (rdH l bad) (.v (.bool bad)) (rdH l bad) := by
 refine FC.of_wp [2] Tryz.func116 rfl rfl rfl rfl ⟨rfl, trivial⟩ ⟨⟨trivial, trivial, trivial⟩, trivial⟩ (Nat.le_of_ble_eq_true rfl) ?_
 intro A hG hnA hAB
 unfold start
 refine WP.rs hG (Ch.asg rfl rfl (Ch.nil (WP.rs hG (Ch.mv rfl rfl (Ch.p1 rfl (OpS.nilCheckP) rfl (Ch.p1 rfl (OpS.fieldAddr rfl rfl rfl rfl) rfl (Ch.q1 rfl (OpS.loadP rfl rfl rfl) rfl rfl (Ch.asg rfl rfl (Ch.nil ?_)))))))))
 refine WP.ret ?_
 refine (Ret.of (rs := [2]) (vs := [.v (.bool bad)]) (H' := rdH l bad) (res := .v (.bool bad)) [0] ?_ ?_ rfl ?_ (by simp only [List.length_cons, List.length_nil]; decide) ?_).1
 · exact na_of hnA rfl
 · (repeat (first | exact trivial | (refine ⟨⟨(by trivial), _, rfl, .rfl _⟩, ?_⟩)))
 · (repeat (first | exact trivial | refine HFromL.skip ?_ | (refine ⟨⟨(by trivial), (by rfl)⟩, ?_⟩)))
 rfl
theorem cut_fc (l : List UInt8) (n : Nat) (hn : n ≤ l.length) (hl : l.length ≤ 9223372036854775807) : FC Tryz.prog G 118 [.ptr 0 0, .v (.int .i64 (n : Int))] (rdH l false) (sA (l.take n)) (rdH (l.drop n) false) := by
 refine FC.of_wp [4] Tryz.func118 rfl rfl rfl rfl ⟨rfl, trivial, trivial⟩ ⟨⟨trivial, trivial, trivial⟩, trivial⟩ (Nat.le_of_ble_eq_true rfl) ?_
 intro A hG hnA hAB
 unfold start
 refine WP.rs hG (Ch.asg rfl rfl (Ch.nil (WP.seq (WP.rs hG (Ch.mv rfl rfl (Ch.mv rfl rfl (Ch.p1 rfl (OpS.nilCheckP) rfl (Ch.p1 rfl (OpS.fieldAddr rfl rfl rfl rfl) rfl (Ch.q1 rfl (OpS.loadP rfl rfl rfl) rfl rfl ?_)))))))))
 refine Ch.mv rfl rfl (Ch.gm rfl rfl rfl rfl (Ch.gm rfl rfl rfl rfl (Ch.g1 rfl rfl rfl (OpS.nilCheckP) rfl (Ch.g1 rfl rfl rfl (OpS.fieldAddr rfl rfl rfl rfl) rfl (Ch.pu (by exact gdT rfl rfl) (by exact ⟨rfl, trivial⟩) (OpS.loadP rfl rfl rfl) (by exact ⟨rfl, trivial⟩) rfl ?_)))))
 refine Ch.g1 rfl rfl rfl (OpS.lenS rfl) rfl (Ch.g2 rfl rfl rfl rfl (OpS.int (v' := .bool false) rfl (by exact congrArg Value.bool (decide_eq_false (by omega)))) rfl ?_)
 refine Ch.p2 rfl rfl (OpS.pickF) rfl (Ch.p1 rfl (OpS.nilCheckP) rfl (Ch.p1 rfl (OpS.fieldAddr rfl rfl rfl rfl) rfl (Ch.ws rfl rfl (OpS.storeP (cs := rdC l false) rfl rfl rfl (by simp)) rfl ?_)))
 refine Ch.nil (WP.rs hG (Ch.mv rfl rfl (Ch.p1 rfl (OpS.nilCheckP) rfl (Ch.p1 rfl (OpS.fieldAddr rfl rfl rfl rfl) rfl (Ch.q1 rfl (OpS.loadP rfl rfl rfl) rfl rfl (Ch.nil (WP.cond_false rfl (WP.skip (WP.rs hG ?_)))))))))
 refine Ch.mv rfl rfl (Ch.p1 rfl (OpS.nilCheckP) rfl (Ch.p1 rfl (OpS.fieldAddr rfl rfl rfl rfl) rfl (Ch.q1 rfl (OpS.loadP rfl rfl rfl) rfl rfl (Ch.mv rfl rfl (Ch.p2 rfl rfl (OpS.sliceSh (l := l) rfl (by with_reducible exact Int.toNat_natCast _) (by omega) (by omega)) rfl ?_)))))
 refine Ch.asg rfl rfl (Ch.nil (WP.rs hG (Ch.mv rfl rfl (Ch.mv rfl rfl (Ch.p1 rfl (OpS.nilCheckP) rfl (Ch.p1 rfl (OpS.fieldAddr rfl rfl rfl rfl) rfl (Ch.q1 rfl (OpS.loadP rfl rfl rfl) rfl rfl (Ch.mv rfl rfl (Ch.p2 rfl rfl (OpS.sliceSl (l := l) rfl (by with_reducible exact Int.toNat_natCast _) (by omega) (by omega)) rfl ?_)))))))))
 refine Ch.p1 rfl (OpS.nilCheckP) rfl (Ch.p1 rfl (OpS.fieldAddr rfl rfl rfl rfl) rfl (Ch.ws rfl rfl (OpS.storeP (cs := rdC l false) rfl rfl rfl (by simp)) rfl ?_))
 refine Ch.nil (WP.rs hG (Ch.mv rfl rfl (Ch.asg rfl rfl (Ch.nil (WP.ret ?_)))))
 refine (Ret.of (rs := [4]) (vs := [sA (l.take n)]) (H' := rdH (l.drop n) false) (res := sA (l.take n)) [0] ?_ ?_ rfl ?_ (by simp only [List.length_cons, List.length_nil]; decide) ?_).1
 · exact na_of hnA rfl
 · (repeat (first | exact trivial | (refine ⟨⟨(by trivial), _, rfl, .rfl _⟩, ?_⟩)))
 · (repeat (first | exact trivial | refine HFromL.skip ?_ | (refine ⟨⟨(by trivial), (by rfl)⟩, ?_⟩)))
 rfl
theorem cutB_fc (l : List UInt8) (n : Int) : FC Tryz.prog G 118 [.ptr 0 0, .v (.int .i64 n)] (rdH l true) (sA []) (rdH l true) := by
 refine FC.of_wp [4] Tryz.func118 rfl rfl rfl rfl ⟨rfl, trivial, trivial⟩ ⟨⟨trivial, trivial, trivial⟩, trivial⟩ (Nat.le_of_ble_eq_true rfl) ?_
 intro A hG hnA hAB
 unfold start
 refine WP.rs hG (Ch.asg rfl rfl (Ch.nil (WP.seq (WP.rs hG (Ch.mv rfl rfl (Ch.mv rfl rfl (Ch.p1 rfl (OpS.nilCheckP) rfl (Ch.p1 rfl (OpS.fieldAddr rfl rfl rfl rfl) rfl (Ch.q1 rfl (OpS.loadP rfl rfl rfl) rfl rfl ?_)))))))))
 refine Ch.mv rfl rfl (Ch.skU (gdF rfl rfl rfl) rfl (Ch.skU (gdF rfl rfl rfl) rfl (Ch.skU (gdF rfl rfl rfl) rfl (Ch.skU (gdF rfl rfl rfl) rfl (Ch.skU (gdF rfl rfl rfl) rfl (Ch.skU (gdF rfl rfl rfl) rfl (Ch.skU (gdF rfl rfl rfl) rfl (Ch.p2 rfl rfl (OpS.pickT) rfl (Ch.p1 rfl (OpS.nilCheckP) rfl ?_)))))))))
 refine Ch.p1 rfl (OpS.fieldAddr rfl rfl rfl rfl) rfl (Ch.ws rfl rfl (OpS.storeP (cs := rdC l true) rfl rfl rfl (by simp)) rfl ?_)
 refine Ch.nil (WP.rs hG (Ch.mv rfl rfl (Ch.p1 rfl (OpS.nilCheckP) rfl (Ch.p1 rfl (OpS.fieldAddr rfl rfl rfl rfl) rfl (Ch.q1 rfl (OpS.loadP rfl rfl rfl) rfl rfl (Ch.nil ?_))))))
 refine WP.cond rfl ?_ ?_
 ·
  intro ht
  skip
  refine WP.rs hG (Ch.asg rfl rfl (Ch.nil (WP.ret ?_)))
  refine (Ret.of (rs := [4]) (vs := [sA []]) (H' := rdH l true) (res := sA []) [0] ?_ ?_ rfl ?_ (by simp only [List.length_cons, List.length_nil]; decide) ?_).1
  · exact na_of hnA rfl
  · (repeat (first | exact trivial | (refine ⟨⟨(by trivial), _, rfl, .rfl _⟩, ?_⟩)))
  · (repeat (first | exact trivial | refine HFromL.skip ?_ | (refine ⟨⟨(by trivial), (by rfl)⟩, ?_⟩)))
  rfl
 intro ht
 cases ht
 done
theorem cvalue_fc (l : List UInt8) (hl : l.length ≤ 1000) : FC Tryz.prog G 119 [sA l] [] (.v (.int .u64 (U64 (valU l)))) [] := by
 refine FC.of_wp [2] Tryz.func119 rfl rfl rfl rfl ⟨trivial, trivial⟩ trivial (Nat.le_of_ble_eq_true rfl) ?_
 intro A hG hnA hAB
 unfold start
 refine WP.rs hG (Ch.asg rfl rfl (Ch.nil (WP.seq (WP.rs hG (Ch.mv rfl rfl (Ch.p1 rfl (OpS.s2b (l := l) rfl rfl rfl (by unfold maxLen; omega)) rfl ?_))))))
 refine Ch.p1 rfl (OpS.len rfl) rfl (Ch.mv rfl rfl (Ch.nil (WP.block ?_)))
 refine WP.loop (fun k σ => ∃ m : Nat, m + k = l.length ∧ σ = ⟨18, ls [(2, .v (.int .u64 (U64 (valU (l.take m))))), (6, .sl none l.length (l.map bA)), (7, .v (.int .i64 (l.length : Int))), (8, .v (.int .i64 (m : Int)))], lh [], blt 0⟩) (l.length) (Ent.of [] ?_ ?_ ?_ ?_).se ⟨0, by omega, rfl⟩ ?_
 · exact na_of hnA rfl
 · (repeat (first | exact trivial | (refine ⟨⟨(by first | trivial | (simp; first | done | fail)), _, rfl, (by first | exact .rfl _ | exact .of_eq (by simp; first | done | fail))⟩, ?_⟩)))
 · (repeat (first | exact trivial | (refine ⟨⟨rfl, (by first | trivial | (simp; first | done | fail) | exact ⟨trivial, hbel _⟩), (by first | rfl | (simp; first | done | fail))⟩, ?_⟩)))
 · exact nd_of rfl
 rintro k σ ⟨m, hm, rfl⟩
 refine WP.rs hG (Ch.p2 rfl rfl (OpS.int rfl (by exact rfl)) rfl ?_)
 refine Ch.nil (WP.seq ?_)
 refine WP.cond rfl ?_ ?_
 ·
  intro ht
  have ht' := of_decide_eq_true ht
  have hml : m < l.length := by omega
  have hv := valU_succ l m hml
  refine WP.skip (WP.seq (WP.block (WP.rs hG (Ch.p2 rfl rfl (OpS.indexM rfl rfl rfl (by with_reducible exact Int.toNat_natCast _) (by omega) (by omega) (by rfl)) rfl ?_))))
  refine Ch.p1 rfl (OpS.loadS rfl rfl) rfl (Ch.asg rfl rfl (Ch.nil (WP.rg hG (Ch.mv rfl rfl (Ch.p2 rfl rfl (OpS.shl_u64 (j := 8) (by decide) (by omega)) rfl ?_)))))
  refine Ch.mv rfl rfl (Ch.p1 rfl (OpS.conv rfl rfl (by exact cv_u64_u8 _)) rfl ?_)
  refine Ch.p2 rfl rfl (OpS.or_u64) rfl (Ch.asg rfl rfl (Ch.nil (WP.rg hG (Ch.p2 rfl rfl (OpS.int rfl (by exact wr64 (by omega))) rfl ?_))))
  refine Ch.mv rfl rfl (Ch.nil ?_)
  refine ⟨k - 1, _, by omega, (Ent.of [] ?_ ?_ ?_ ?_).se, m + 1, by omega, rfl⟩
  · exact na_of hnA rfl
  · (repeat (first | exact trivial | (refine ⟨⟨(by first | trivial | (simp; first | done | fail)), _, rfl, (by first | exact .rfl _ | exact .of_eq (by simp [hv, el, hml]; first | done | fail))⟩, ?_⟩)))
  · (repeat (first | exact trivial | (refine ⟨⟨rfl, (by first | trivial | (simp; first | done | fail) | exact ⟨trivial, hbel _⟩), (by first | rfl | (simp [hv, el, hml]; first | done | fail))⟩, ?_⟩)))
  exact nd_of rfl
 intro ht
 have ht' := of_decide_eq_false ht
 obtain rfl : m = l.length := by omega
 rw [List.take_length]
 refine WP.exit ?_
 refine WP.ret (Ret.one rfl (by exact .rfl _) (by trivial) hnA)
theorem rNum_fc (l : List UInt8) (h8 : 8 ≤ l.length) (hl : l.length ≤ 9223372036854775807) : FC Tryz.prog G 79 [.ptr 0 0] (rdH l false) (.v (.int .u64 (U64 (valU (l.take 8))))) (rdH (l.drop 8) false) := by
 have hc := cut_fc (G := G) l 8 h8 hl
 have hv := cvalue_fc (G := G) (l.take 8) (by rw [List.length_take]; omega)
 refine FC.of_wp [2] Tryz.func79 rfl rfl rfl rfl ⟨rfl, trivial⟩ ⟨⟨trivial, trivial, trivial⟩, trivial⟩ (Nat.le_of_ble_eq_true rfl) ?_
 intro A hG hnA hAB
 unfold start
 refine WP.rs hG (Ch.asg rfl rfl (Ch.nil (WP.rs hG (Ch.mv rfl rfl ?_))))
 refine Ch.cH (hc) [0] 1 gdN (.cons rfl (.cons rfl .nil)) (.c (.rfl _) (.c (.rfl _) .n)) rfl (by refine ⟨?_, ?_, ?_, ?_⟩ <;> first | ((conv => lhs; simp only [nrmA, Nat.reduceAdd]); all_goals rfl) | rfl) (by exact ⟨rfl, trivial⟩) (by exact trivial) rfl ?_
 refine Ch.asg rfl rfl (Ch.nil (WP.seq (WP.rs hG (Ch.mv rfl rfl (Ch.p1 rfl (OpS.nilCheckP) rfl (Ch.p1 rfl (OpS.fieldAddr rfl rfl rfl rfl) rfl (Ch.q1 rfl (OpS.loadP rfl rfl rfl) rfl rfl (Ch.nil (WP.cond_false rfl ?_)))))))))
 refine WP.skip (WP.rs hG (Ch.mv rfl rfl (Ch.callP (hv) gdN (.cons rfl .nil) (.c (.rfl _) .n) (by rfl) rfl ?_)))
 refine Ch.asg rfl rfl (Ch.nil (WP.ret ?_))
 refine (Ret.of (rs := [2]) (vs := [.v (.int .u64 (U64 (valU (l.take 8))))]) (H' := rdH (l.drop 8) false) (res := .v (.int .u64 (U64 (valU (l.take 8))))) [0] ?_ ?_ rfl ?_ (by simp only [List.length_cons, List.length_nil]; decide) ?_).1
 · exact na_of hnA rfl
 · (repeat (first | exact trivial | (refine ⟨⟨(by trivial), _, rfl, .rfl _⟩, ?_⟩)))
 · (repeat (first | exact trivial | refine HFromL.skip ?_ | (refine ⟨⟨(by trivial), (by rfl)⟩, ?_⟩)))
 rfl
theorem rText_fc (l : List UInt8) (m most : Nat) (h4 : 4 ≤ l.length) (hl : l.length ≤ 9223372036854775807) (hm : (valU (l.take 4)).toNat = m) (hmo : m ≤ most) (hb : most ≤ 4294967296) (hfit : 4 + m ≤ l.length) :
  FC Tryz.prog G 80 [.ptr 0 0, .v (.int .i64 (most : Int))] (rdH l false) (sA ((l.drop 4).take m)) (rdH ((l.drop 4).drop m) false) := by
 have hc := cut_fc (G := G) l 4 h4 hl
 have hv := cvalue_fc (G := G) (l.take 4) (by rw [List.length_take]; omega)
 have hU : U64 (valU (l.take 4)) = (m : Int) := by unfold U64; rw [hm]
 rw [hU] at hv
 have hc2 := cut_fc (G := G) (l.drop 4) m (by rw [List.length_drop]; omega) (by rw [List.length_drop]; omega)
 refine FC.of_wp [4] Tryz.func80 rfl rfl rfl rfl ⟨rfl, trivial, trivial⟩ ⟨⟨trivial, trivial, trivial⟩, trivial⟩ (Nat.le_of_ble_eq_true rfl) ?_
 intro A hG hnA hAB
 unfold start
 refine WP.rs hG (Ch.asg rfl rfl (Ch.nil (WP.rs hG (Ch.mv rfl rfl ?_))))
 refine Ch.cH (hc) [0] 1 gdN (.cons rfl (.cons rfl .nil)) (.c (.rfl _) (.c (.rfl _) .n)) rfl (by refine ⟨?_, ?_, ?_, ?_⟩ <;> first | ((conv => lhs; simp only [nrmA, Nat.reduceAdd]); all_goals rfl) | rfl) (by exact ⟨rfl, trivial⟩) (by exact trivial) rfl ?_
 refine Ch.asg rfl rfl (Ch.nil (WP.seq (WP.rs hG (Ch.mv rfl rfl (Ch.p1 rfl (OpS.nilCheckP) rfl (Ch.p1 rfl (OpS.fieldAddr rfl rfl rfl rfl) rfl (Ch.q1 rfl (OpS.loadP rfl rfl rfl) rfl rfl (Ch.nil (WP.cond_false rfl ?_)))))))))
 refine WP.skip (WP.rs hG (Ch.mv rfl rfl (Ch.callP (hv) gdN (.cons rfl .nil) (.c (.rfl _) .n) (by rfl) rfl ?_)))
 refine Ch.p1 rfl (OpS.conv rfl rfl (by exact wr64 (by omega))) rfl ?_
 refine Ch.asg rfl rfl (Ch.nil (WP.seq (WP.rs hG (Ch.mv rfl rfl (Ch.mv rfl rfl (Ch.p2 rfl rfl (OpS.int (v' := .bool false) rfl (by exact congrArg Value.bool (decide_eq_false (by omega)))) rfl ?_))))))
 refine Ch.nil (WP.cond_false rfl (WP.skip (WP.rs hG (Ch.mv rfl rfl (Ch.mv rfl rfl ?_)))))
 refine Ch.cH (hc2) [0] 1 gdN (.cons rfl (.cons rfl .nil)) (.c (.rfl _) (.c (.rfl _) .n)) rfl (by refine ⟨?_, ?_, ?_, ?_⟩ <;> first | ((conv => lhs; simp only [nrmA, Nat.reduceAdd]); all_goals rfl) | rfl) (by exact ⟨rfl, trivial⟩) (by exact trivial) rfl ?_
 refine Ch.asg rfl rfl (Ch.nil (WP.ret ?_))
 refine (Ret.of (rs := [4]) (vs := [sA ((l.drop 4).take m)]) (H' := rdH ((l.drop 4).drop m) false) (res := sA ((l.drop 4).take m)) [0] ?_ ?_ rfl ?_ (by simp only [List.length_cons, List.length_nil]; decide) ?_).1
 · exact na_of hnA rfl
 · (repeat (first | exact trivial | (refine ⟨⟨(by trivial), _, rfl, .rfl _⟩, ?_⟩)))
 · (repeat (first | exact trivial | refine HFromL.skip ?_ | (refine ⟨⟨(by trivial), (by rfl)⟩, ?_⟩)))
 rfl
theorem rTextB_fc (l : List UInt8) (m most : Nat) (h4 : 4 ≤ l.length) (hl : l.length ≤ 9223372036854775807) (hm : (valU (l.take 4)).toNat = m) (hmb : m ≤ 4294967296) (hmo : most < m) :
  FC Tryz.prog G 80 [.ptr 0 0, .v (.int .i64 (most : Int))] (rdH l false) (sA []) (rdH (l.drop 4) true) := by
 have hc := cut_fc (G := G) l 4 h4 hl
 have hv := cvalue_fc (G := G) (l.take 4) (by rw [List.length_take]; omega)
 have hU : U64 (valU (l.take 4)) = (m : Int) := by unfold U64; rw [hm]
 rw [hU] at hv
 have hc2 := cutB_fc (G := G) (l.drop 4) (m : Int)
 refine FC.of_wp [4] Tryz.func80 rfl rfl rfl rfl ⟨rfl, trivial, trivial⟩ ⟨⟨trivial, trivial, trivial⟩, trivial⟩ (Nat.le_of_ble_eq_true rfl) ?_
 intro A hG hnA hAB
 unfold start
 refine WP.rs hG (Ch.asg rfl rfl (Ch.nil (WP.rs hG (Ch.mv rfl rfl ?_))))
 refine Ch.cH (hc) [0] 1 gdN (.cons rfl (.cons rfl .nil)) (.c (.rfl _) (.c (.rfl _) .n)) rfl (by refine ⟨?_, ?_, ?_, ?_⟩ <;> first | ((conv => lhs; simp only [nrmA, Nat.reduceAdd]); all_goals rfl) | rfl) (by exact ⟨rfl, trivial⟩) (by exact trivial) rfl ?_
 refine Ch.asg rfl rfl (Ch.nil (WP.seq (WP.rs hG (Ch.mv rfl rfl (Ch.p1 rfl (OpS.nilCheckP) rfl (Ch.p1 rfl (OpS.fieldAddr rfl rfl rfl rfl) rfl (Ch.q1 rfl (OpS.loadP rfl rfl rfl) rfl rfl (Ch.nil (WP.cond_false rfl ?_)))))))))
 refine WP.skip (WP.rs hG (Ch.mv rfl rfl (Ch.callP (hv) gdN (.cons rfl .nil) (.c (.rfl _) .n) (by rfl) rfl ?_)))
 refine Ch.p1 rfl (OpS.conv rfl rfl (by exact wr64 (by omega))) rfl ?_
 refine Ch.asg rfl rfl (Ch.nil (WP.seq (WP.rs hG (Ch.mv rfl rfl (Ch.mv rfl rfl (Ch.p2 rfl rfl (OpS.int (v' := .bool true) rfl (by exact congrArg Value.bool (decide_eq_true (by omega)))) rfl ?_))))))
 refine Ch.nil (WP.cond_true rfl (WP.rg hG (Ch.mv rfl rfl (Ch.p1 rfl (OpS.nilCheckP) rfl (Ch.p1 rfl (OpS.fieldAddr rfl rfl rfl rfl) rfl (Ch.ws rfl rfl (OpS.storeP (cs := rdC (l.drop 4) false) rfl rfl rfl (by simp)) rfl ?_))))))
 refine Ch.nil (WP.rs hG (Ch.mv rfl rfl (Ch.mv rfl rfl ?_)))
 refine Ch.cH (hc2) [0] 1 gdN (.cons rfl (.cons rfl .nil)) (.c (.rfl _) (.c (.rfl _) .n)) rfl (by refine ⟨?_, ?_, ?_, ?_⟩ <;> first | ((conv => lhs; simp only [nrmA, Nat.reduceAdd]); all_goals rfl) | rfl) (by exact ⟨rfl, trivial⟩) (by exact trivial) rfl ?_
 refine Ch.asg rfl rfl (Ch.nil (WP.ret ?_))
 refine (Ret.of (rs := [4]) (vs := [sA []]) (H' := rdH (l.drop 4) true) (res := sA []) [0] ?_ ?_ rfl ?_ (by simp only [List.length_cons, List.length_nil]; decide) ?_).1
 · exact na_of hnA rfl
 · (repeat (first | exact trivial | (refine ⟨⟨(by trivial), _, rfl, .rfl _⟩, ?_⟩)))
 · (repeat (first | exact trivial | refine HFromL.skip ?_ | (refine ⟨⟨(by trivial), (by rfl)⟩, ?_⟩)))
 rfl
theorem wText_fc (l s : List UInt8) (hl : l.length ≤ 70368744177664) (hs' : s.length ≤ 4294967295) :
  FC Tryz.prog G 150 [.ptr 0 0, sA s] (wrH l) (.tup []) [some (.cells 115 [.sl (some 3) (l ++ beS (UInt64.ofNat s.length) 4 ++ s).length ((l ++ beS (UInt64.ofNat s.length) 4 ++ s).map bA)]), none, none, some (.tip 5 1 (l ++ beS (UInt64.ofNat s.length) 4 ++ s).length)] := by
 have hbl := beS_length (UInt64.ofNat s.length) 4
 refine FC.of_wp [] Tryz.func150 rfl rfl rfl rfl ⟨rfl, trivial, trivial⟩ ⟨⟨⟨fun k hk => by cases hk; rfl, belL_b _ _⟩, trivial⟩, trivial, trivial⟩ (Nat.le_of_ble_eq_true rfl) ?_
 intro A hG hnA hAB
 unfold start
 refine WP.rg hG (Ch.mv rfl rfl (Ch.mv rfl rfl (Ch.p1 rfl (OpS.nilCheckP) rfl (Ch.p1 rfl (OpS.fieldAddr rfl rfl rfl rfl) rfl (Ch.q1 rfl (OpS.loadP rfl rfl rfl) rfl rfl (Ch.mv rfl rfl (Ch.p1 rfl (OpS.lenS rfl) rfl (Ch.p1 rfl (OpS.conv rfl rfl (by exact cv_u64_nat _)) rfl ?_))))))))
 refine Ch.cH (lay_fc l (UInt64.ofNat s.length) 4 (by decide) (by decide) hl) [1] 2 gdN (.cons rfl (.cons rfl (.cons rfl .nil))) (.c (AV.wk.tip rfl (by exact renL_b _ _)) (.c (.rfl _) (.c (.rfl _) .n))) rfl (by refine ⟨?_, ?_, ?_, ?_⟩ <;> first | ((conv => lhs; simp only [nrmA, Nat.reduceAdd]); all_goals rfl) | rfl) (by exact ⟨rfl, trivial⟩) (by exact ⟨rfl, trivial⟩) rfl ?_
 refine Ch.mv rfl rfl (Ch.a2 rfl rfl (OpS.append (sz := 1) (bb := 1) 3 rfl rfl rfl rfl rfl (by decide) (SrcA.str rfl _) (by (simp; assumption)) (by simp) (by unfold maxLen; omega) rfl (by omega)) rfl rfl rfl ?_)
 refine Ch.p1 rfl (OpS.nilCheckP) rfl (Ch.p1 rfl (OpS.fieldAddr rfl rfl rfl rfl) rfl (Ch.ws rfl rfl (OpS.storeP (cs := [.sl (some 1) l.length (l.map bA)]) rfl rfl rfl (by simp)) rfl ?_))
 refine Ch.nil ?_
 refine (Ret.of (rs := []) (vs := []) (H' := [some (.cells 115 [.sl (some 3) (l ++ beS (UInt64.ofNat s.length) 4 ++ s).length ((l ++ beS (UInt64.ofNat s.length) 4 ++ s).map bA)]), none, none, some (.tip 5 1 (l ++ beS (UInt64.ofNat s.length) 4 ++ s).length)]) (res := .tup []) [0, 1, 2, 3] ?_ ?_ rfl ?_ (by simp only [List.length_cons, List.length_nil]; decide) ?_).2
 · exact na_of hnA rfl
 · (repeat (first | exact trivial | (refine ⟨⟨(by first | trivial | (simp; first | done | fail) | exact ⟨trivial, hbel _⟩), _, rfl, (by first | exact .rfl _ | exact .nil | exact .of_eq (by simp [hbl, Nat.add_assoc]; first | done | fail) | exact AV.wk.sh (by simp [hbl, Nat.add_assoc]; first | done | fail) | exact .untip _ _ _)⟩, ?_⟩)))
 · (repeat (first | exact trivial | refine HFromL.skip ?_ | (refine ⟨⟨(by first | trivial | (simp; first | done | fail)), (by (simp [hbl, Nat.add_assoc]; first | done | fail))⟩, ?_⟩)))
 exact ⟨_, rfl, rfl, by simp [ls, TsOk, List.zip, List.zipWith]⟩
theorem rEnd_fc (l : List UInt8) (bad : Bool) : FC Tryz.prog G 81 [.ptr 0 0] (rdH l bad) (.v (.bool (!bad && decide (l = [])))) (rdH l bad) := by
 refine FC.of_wp [2] Tryz.func81 rfl rfl rfl rfl ⟨rfl, trivial⟩ ⟨⟨trivial, trivial, trivial⟩, trivial⟩ (Nat.le_of_ble_eq_true rfl) ?_
 intro A hG hnA hAB
 unfold start
 refine WP.rs hG (Ch.asg rfl rfl (Ch.nil ?_))
 have hq : True := trivial
 cases bad
 ·
  have hs := hq
  refine WP.rs hG (Ch.mv rfl rfl (Ch.p1 rfl (OpS.nilCheckP) rfl (Ch.p1 rfl (OpS.fieldAddr rfl rfl rfl rfl) rfl (Ch.q1 rfl (OpS.loadP rfl rfl rfl) rfl rfl (Ch.p1 rfl (OpS.not) rfl (Ch.mv rfl rfl (Ch.gm rfl rfl rfl rfl (Ch.g1 rfl rfl rfl (OpS.nilCheckP) rfl (Ch.g1 rfl rfl rfl (OpS.fieldAddr rfl rfl rfl rfl) rfl ?_)))))))))
  refine Ch.pu (by exact gdT rfl rfl) (by exact ⟨rfl, trivial⟩) (OpS.loadP rfl rfl rfl) (by exact ⟨rfl, trivial⟩) rfl ?_
  refine Ch.g2 rfl rfl rfl rfl (OpS.strEqB (c := decide (l = [])) rfl) rfl (Ch.p2 rfl rfl (OpS.pickT) rfl (Ch.asg rfl rfl (Ch.nil (WP.ret ?_))))
  refine (Ret.of (rs := [2]) (vs := [.v (.bool (decide (l = [])))]) (H' := rdH l false) (res := .v (.bool (decide (l = [])))) [0] ?_ ?_ rfl ?_ (by simp only [List.length_cons, List.length_nil]; decide) ?_).1
  · exact na_of hnA rfl
  · (repeat (first | exact trivial | (refine ⟨⟨(by trivial), _, rfl, .rfl _⟩, ?_⟩)))
  · (repeat (first | exact trivial | refine HFromL.skip ?_ | (refine ⟨⟨(by trivial), (by rfl)⟩, ?_⟩)))
  rfl
 have hs := hq
 refine WP.rs hG (Ch.mv rfl rfl (Ch.p1 rfl (OpS.nilCheckP) rfl (Ch.p1 rfl (OpS.fieldAddr rfl rfl rfl rfl) rfl (Ch.q1 rfl (OpS.loadP rfl rfl rfl) rfl rfl (Ch.p1 rfl (OpS.not) rfl (Ch.mv rfl rfl (Ch.skU (gdF rfl rfl rfl) rfl (Ch.skU (gdF rfl rfl rfl) rfl (Ch.skU (gdF rfl rfl rfl) rfl ?_)))))))))
 refine Ch.skU (gdF rfl rfl rfl) rfl (Ch.skU (gdF rfl rfl rfl) rfl (Ch.p2 rfl rfl (OpS.pickF) rfl (Ch.asg rfl rfl (Ch.nil (WP.ret ?_)))))
 refine (Ret.of (rs := [2]) (vs := [.v (.bool false)]) (H' := rdH l true) (res := .v (.bool false)) [0] ?_ ?_ rfl ?_ (by simp only [List.length_cons, List.length_nil]; decide) ?_).1
 · exact na_of hnA rfl
 · (repeat (first | exact trivial | (refine ⟨⟨(by trivial), _, rfl, .rfl _⟩, ?_⟩)))
 · (repeat (first | exact trivial | refine HFromL.skip ?_ | (refine ⟨⟨(by trivial), (by rfl)⟩, ?_⟩)))
 rfl
theorem cutS_fc (l : List UInt8) (n : Nat) (hn : l.length < n) : FC Tryz.prog G 118 [.ptr 0 0, .v (.int .i64 (n : Int))] (rdH l false) (sA []) (rdH l true) := by
 refine FC.of_wp [4] Tryz.func118 rfl rfl rfl rfl ⟨rfl, trivial, trivial⟩ ⟨⟨trivial, trivial, trivial⟩, trivial⟩ (Nat.le_of_ble_eq_true rfl) ?_
 intro A hG hnA hAB
 unfold start
 refine WP.rs hG (Ch.asg rfl rfl (Ch.nil (WP.seq (WP.rs hG (Ch.mv rfl rfl (Ch.mv rfl rfl (Ch.p1 rfl (OpS.nilCheckP) rfl (Ch.p1 rfl (OpS.fieldAddr rfl rfl rfl rfl) rfl (Ch.q1 rfl (OpS.loadP rfl rfl rfl) rfl rfl ?_)))))))))
 refine Ch.mv rfl rfl (Ch.gm rfl rfl rfl rfl (Ch.gm rfl rfl rfl rfl (Ch.g1 rfl rfl rfl (OpS.nilCheckP) rfl (Ch.g1 rfl rfl rfl (OpS.fieldAddr rfl rfl rfl rfl) rfl (Ch.pu (by exact gdT rfl rfl) (by exact ⟨rfl, trivial⟩) (OpS.loadP rfl rfl rfl) (by exact ⟨rfl, trivial⟩) rfl ?_)))))
 refine Ch.g1 rfl rfl rfl (OpS.lenS rfl) rfl (Ch.g2 rfl rfl rfl rfl (OpS.gtrT (by omega)) rfl ?_)
 refine Ch.p2 rfl rfl (OpS.pickF) rfl (Ch.p1 rfl (OpS.nilCheckP) rfl (Ch.p1 rfl (OpS.fieldAddr rfl rfl rfl rfl) rfl (Ch.ws rfl rfl (OpS.storeP (cs := rdC l false) rfl rfl rfl (by simp)) rfl ?_)))
 refine Ch.nil (WP.rs hG (Ch.mv rfl rfl (Ch.p1 rfl (OpS.nilCheckP) rfl (Ch.p1 rfl (OpS.fieldAddr rfl rfl rfl rfl) rfl (Ch.q1 rfl (OpS.loadP rfl rfl rfl) rfl rfl (Ch.nil (WP.cond_true rfl (WP.rs hG (Ch.asg rfl rfl ?_)))))))))
 refine Ch.nil (WP.ret ?_)
 refine (Ret.of (rs := [4]) (vs := [sA []]) (H' := rdH l true) (res := sA []) [0] ?_ ?_ rfl ?_ (by simp only [List.length_cons, List.length_nil]; decide) ?_).1
 · exact na_of hnA rfl
 · (repeat (first | exact trivial | (refine ⟨⟨(by trivial), _, rfl, .rfl _⟩, ?_⟩)))
 · (repeat (first | exact trivial | refine HFromL.skip ?_ | (refine ⟨⟨(by trivial), (by rfl)⟩, ?_⟩)))
 rfl
theorem cutX_fc (r : List UInt8 × Bool) (n : Nat) (hl : r.1.length ≤ 9223372036854775807) : FC Tryz.prog G 118 [.ptr 0 0, .v (.int .i64 (n : Int))] (rdH r.1 r.2) (sA (rdCut n r).1) (rdH (rdCut n r).2.1 (rdCut n r).2.2) := by
 obtain ⟨l, b⟩ := r
 cases b with
 | true => rw [rdCut_bad]; exact cutB_fc l n
 | false =>
  rcases Nat.lt_or_ge l.length n with h | h
  · rw [rdCut_short h]; exact cutS_fc l n h
  rw [rdCut_fit h]; exact cut_fc l n h hl
theorem rNumB_fc (l : List UInt8) (b : Bool) (hl : l.length ≤ 9223372036854775807) (hb : (rdCut 8 (l, b)).2.2 = true) : FC Tryz.prog G 79 [.ptr 0 0] (rdH l b) (.v (.int .u64 (U64 0))) (rdH (rdCut 8 (l, b)).2.1 true) := by
 have hc := cutX_fc (G := G) (l, b) 8 hl
 rw [hb] at hc
 refine FC.of_wp [2] Tryz.func79 rfl rfl rfl rfl ⟨rfl, trivial⟩ ⟨⟨trivial, trivial, trivial⟩, trivial⟩ (Nat.le_of_ble_eq_true rfl) ?_
 intro A hG hnA hAB
 unfold start
 refine WP.rs hG (Ch.asg rfl rfl (Ch.nil (WP.rs hG (Ch.mv rfl rfl ?_))))
 refine Ch.cH (hc) [0] 1 gdN (.cons rfl (.cons rfl .nil)) (.c (.rfl _) (.c (.rfl _) .n)) rfl (by refine ⟨?_, ?_, ?_, ?_⟩ <;> first | ((conv => lhs; simp only [nrmA, Nat.reduceAdd]); all_goals rfl) | rfl) (by exact ⟨rfl, trivial⟩) (by exact trivial) rfl ?_
 refine Ch.asg rfl rfl (Ch.nil (WP.seq (WP.rs hG (Ch.mv rfl rfl (Ch.p1 rfl (OpS.nilCheckP) rfl (Ch.p1 rfl (OpS.fieldAddr rfl rfl rfl rfl) rfl (Ch.q1 rfl (OpS.loadP rfl rfl rfl) rfl rfl (Ch.nil (WP.cond_true rfl ?_)))))))))
 refine WP.rs hG (Ch.asg rfl rfl (Ch.nil (WP.ret ?_)))
 refine (Ret.of (rs := [2]) (vs := [.v (.int .u64 (U64 0))]) (H' := rdH (rdCut 8 (l, b)).2.1 true) (res := .v (.int .u64 (U64 0))) [0] ?_ ?_ rfl ?_ (by simp only [List.length_cons, List.length_nil]; decide) ?_).1
 · exact na_of hnA rfl
 · (repeat (first | exact trivial | (refine ⟨⟨(by trivial), _, rfl, .rfl _⟩, ?_⟩)))
 · (repeat (first | exact trivial | refine HFromL.skip ?_ | (refine ⟨⟨(by trivial), (by rfl)⟩, ?_⟩)))
 rfl
theorem rNumX_fc (r : List UInt8 × Bool) (hl : r.1.length ≤ 9223372036854775807) : FC Tryz.prog G 79 [.ptr 0 0] (rdH r.1 r.2) (.v (.int .u64 (U64 (rdNum r).1))) (rdH (rdNum r).2.1 (rdNum r).2.2) := by
 obtain ⟨l, b⟩ := r
 unfold rdNum
 cases hb : (rdCut 8 (l, b)).2.2 with
 | true => rw [if_pos rfl]; exact rNumB_fc l b hl hb
 | false =>
  obtain ⟨h1, h2, h3⟩ := rdCut_ok hb
  cases h1
  rw [h3, if_neg (by decide)]
  exact rNum_fc l h2 hl
theorem rTextC_fc (l : List UInt8) (b : Bool) (most : Int) (hl : l.length ≤ 9223372036854775807) (hb : (rdCut 4 (l, b)).2.2 = true) : FC Tryz.prog G 80 [.ptr 0 0, .v (.int .i64 most)] (rdH l b) (sA []) (rdH (rdCut 4 (l, b)).2.1 true) := by
 have hc := cutX_fc (G := G) (l, b) 4 hl
 rw [hb] at hc
 refine FC.of_wp [4] Tryz.func80 rfl rfl rfl rfl ⟨rfl, trivial, trivial⟩ ⟨⟨trivial, trivial, trivial⟩, trivial⟩ (Nat.le_of_ble_eq_true rfl) ?_
 intro A hG hnA hAB
 unfold start
 refine WP.rs hG (Ch.asg rfl rfl (Ch.nil (WP.rs hG (Ch.mv rfl rfl ?_))))
 refine Ch.cH (hc) [0] 1 gdN (.cons rfl (.cons rfl .nil)) (.c (.rfl _) (.c (.rfl _) .n)) rfl (by refine ⟨?_, ?_, ?_, ?_⟩ <;> first | ((conv => lhs; simp only [nrmA, Nat.reduceAdd]); all_goals rfl) | rfl) (by exact ⟨rfl, trivial⟩) (by exact trivial) rfl ?_
 refine Ch.asg rfl rfl (Ch.nil (WP.seq (WP.rs hG (Ch.mv rfl rfl (Ch.p1 rfl (OpS.nilCheckP) rfl (Ch.p1 rfl (OpS.fieldAddr rfl rfl rfl rfl) rfl (Ch.q1 rfl (OpS.loadP rfl rfl rfl) rfl rfl (Ch.nil (WP.cond_true rfl ?_)))))))))
 refine WP.rs hG (Ch.asg rfl rfl (Ch.nil (WP.ret ?_)))
 refine (Ret.of (rs := [4]) (vs := [sA []]) (H' := rdH (rdCut 4 (l, b)).2.1 true) (res := sA []) [0] ?_ ?_ rfl ?_ (by simp only [List.length_cons, List.length_nil]; decide) ?_).1
 · exact na_of hnA rfl
 · (repeat (first | exact trivial | (refine ⟨⟨(by trivial), _, rfl, .rfl _⟩, ?_⟩)))
 · (repeat (first | exact trivial | refine HFromL.skip ?_ | (refine ⟨⟨(by trivial), (by rfl)⟩, ?_⟩)))
 rfl
theorem rTextS_fc (l : List UInt8) (m most : Nat) (h4 : 4 ≤ l.length) (hl : l.length ≤ 9223372036854775807) (hm : (valU (l.take 4)).toNat = m) (hmb : m ≤ 4294967296) (hmo : m ≤ most) (hb : most ≤ 4294967296) :
  FC Tryz.prog G 80 [.ptr 0 0, .v (.int .i64 (most : Int))] (rdH l false) (sA (rdCut m (l.drop 4, false)).1) (rdH (rdCut m (l.drop 4, false)).2.1 (rdCut m (l.drop 4, false)).2.2) := by
 have hc := cut_fc (G := G) l 4 h4 hl
 have hv := cvalue_fc (G := G) (l.take 4) (by rw [List.length_take]; omega)
 have hU : U64 (valU (l.take 4)) = (m : Int) := by unfold U64; rw [hm]
 rw [hU] at hv
 have hc2 := cutX_fc (G := G) (l.drop 4, false) m (by show (l.drop 4).length ≤ _; rw [List.length_drop]; omega)
 refine FC.of_wp [4] Tryz.func80 rfl rfl rfl rfl ⟨rfl, trivial, trivial⟩ ⟨⟨trivial, trivial, trivial⟩, trivial⟩ (Nat.le_of_ble_eq_true rfl) ?_
 intro A hG hnA hAB
 unfold start
 refine WP.rs hG (Ch.asg rfl rfl (Ch.nil (WP.rs hG (Ch.mv rfl rfl ?_))))
 refine Ch.cH (hc) [0] 1 gdN (.cons rfl (.cons rfl .nil)) (.c (.rfl _) (.c (.rfl _) .n)) rfl (by refine ⟨?_, ?_, ?_, ?_⟩ <;> first | ((conv => lhs; simp only [nrmA, Nat.reduceAdd]); all_goals rfl) | rfl) (by exact ⟨rfl, trivial⟩) (by exact trivial) rfl ?_
 refine Ch.asg rfl rfl (Ch.nil (WP.seq (WP.rs hG (Ch.mv rfl rfl (Ch.p1 rfl (OpS.nilCheckP) rfl (Ch.p1 rfl (OpS.fieldAddr rfl rfl rfl rfl) rfl (Ch.q1 rfl (OpS.loadP rfl rfl rfl) rfl rfl (Ch.nil (WP.cond_false rfl ?_)))))))))
 refine WP.skip (WP.rs hG (Ch.mv rfl rfl (Ch.callP (hv) gdN (.cons rfl .nil) (.c (.rfl _) .n) (by rfl) rfl ?_)))
 refine Ch.p1 rfl (OpS.conv rfl rfl (by exact wr64 (by omega))) rfl ?_
 refine Ch.asg rfl rfl (Ch.nil (WP.seq (WP.rs hG (Ch.mv rfl rfl (Ch.mv rfl rfl (Ch.p2 rfl rfl (OpS.int (v' := .bool false) rfl (by exact congrArg Value.bool (decide_eq_false (by omega)))) rfl ?_))))))
 refine Ch.nil (WP.cond_false rfl (WP.skip (WP.rs hG (Ch.mv rfl rfl (Ch.mv rfl rfl ?_)))))
 refine Ch.cH (hc2) [0] 1 gdN (.cons rfl (.cons rfl .nil)) (.c (.rfl _) (.c (.rfl _) .n)) rfl (by refine ⟨?_, ?_, ?_, ?_⟩ <;> first | ((conv => lhs; simp only [nrmA, Nat.reduceAdd]); all_goals rfl) | rfl) (by exact ⟨rfl, trivial⟩) (by exact trivial) rfl ?_
 refine Ch.asg rfl rfl (Ch.nil (WP.ret ?_))
 refine (Ret.of (rs := [4]) (vs := [sA (rdCut m (l.drop 4, false)).1]) (H' := rdH (rdCut m (l.drop 4, false)).2.1 (rdCut m (l.drop 4, false)).2.2) (res := sA (rdCut m (l.drop 4, false)).1) [0] ?_ ?_ rfl ?_ (by simp only [List.length_cons, List.length_nil]; decide) ?_).1
 · exact na_of hnA rfl
 · (repeat (first | exact trivial | (refine ⟨⟨(by trivial), _, rfl, .rfl _⟩, ?_⟩)))
 · (repeat (first | exact trivial | refine HFromL.skip ?_ | (refine ⟨⟨(by trivial), (by rfl)⟩, ?_⟩)))
 rfl
theorem rTextX_fc (r : List UInt8 × Bool) (most : Nat) (hl : r.1.length ≤ 9223372036854775807) (hb : most ≤ 4294967296) : FC Tryz.prog G 80 [.ptr 0 0, .v (.int .i64 (most : Int))] (rdH r.1 r.2) (sA (rdText most r).1) (rdH (rdText most r).2.1 (rdText most r).2.2) := by
 obtain ⟨l, b⟩ := r
 unfold rdText
 cases hb' : (rdCut 4 (l, b)).2.2 with
 | true =>
  rw [if_pos rfl]
  have := rTextC_fc (G := G) l b (most : Int) hl hb'
  rw [← hb'] at this
  exact this
 | false =>
  obtain ⟨h1, h2, h3⟩ := rdCut_ok hb'
  cases h1
  rw [h3, if_neg (by decide)]
  have hlt := valU_lt 4 (l.take 4) (by rw [List.length_take]; exact Nat.min_eq_left h2) (by decide)
  rcases Nat.lt_or_ge most (valU (l.take 4)).toNat with h | h
  ·
   rw [if_pos h]
   exact rTextB_fc l (valU (l.take 4)).toNat most h2 hl rfl (by omega) h
  rw [if_neg (by show ¬ most < (valU (l.take 4)).toNat; omega)]
  exact rTextS_fc l (valU (l.take 4)).toNat most h2 hl rfl (by omega) h hb
end
end Go.Proofs.YtpnbpcopdckgpaaGreatDoor.E
end
namespace Go.Proofs.YtpnbpcopdckgpaaGreatDoor.E
open Go Go.RowKit V
set_option maxRecDepth 4000
set_option maxRecDepth 4000
def f64 (n : Nat) : Nat := FloatKind.f64.nearest (n : Int)
theorem f64_all : ((List.range 257).all fun n => decide ((FloatKind.f64.decode (f64 n)).toInt .zero = some (n : Int))) = true := by decide +kernel
theorem f64_back {n : Nat} (h : n ≤ 256) : (FloatKind.f64.decode (f64 n)).toInt .zero = some (n : Int) := by
 have := List.all_eq_true.1 f64_all n (List.mem_range.2 (by omega))
 exact of_decide_eq_true this
theorem f64_0 : f64 0 = 0 := near0
theorem f64_near (n : Nat) : FloatKind.f64.nearest (n : Int) = f64 n := rfl
theorem i64_small {n : Nat} (h : n ≤ 256) : IntKind.i64.min ≤ (n : Int) ∧ (n : Int) ≤ IntKind.i64.max := by
 have h1 : IntKind.i64.min ≤ (0 : Int) := by decide
 have h2 : (256 : Int) ≤ IntKind.i64.max := by decide
 omega
def tbA (p : TB) : List AV := [.v (.int .u64 (U64 p.1)), .v (.complex .f64 (f64 p.2.1) (f64 p.2.2))]
theorem tbA_len (p : TB) : (tbA p).length = 2 := rfl
theorem flatA_len {α : Type} (f : α → List AV) (sz : Nat) (hf : ∀ a, (f a).length = sz) : ∀ l : List α, (l.flatMap f).length = l.length * sz
 | [] => by simp
 | a :: l => by rw [List.flatMap_cons, List.length_append, flatA_len f sz hf l, hf, List.length_cons, Nat.add_mul]; omega
theorem flatA_get {α : Type} [Inhabited α] (f : α → List AV) (sz : Nat) (hf : ∀ a, (f a).length = sz) : ∀ (l : List α) (j : Nat), j < l.length → ((l.flatMap f).drop (j * sz)).take sz = f (el l j)
 | a :: l, 0, _ => by
  rw [Nat.zero_mul, List.drop_zero, List.flatMap_cons, List.take_append_of_le_length (by rw [hf]; exact Nat.le_refl _), List.take_of_length_le (by rw [hf]; exact Nat.le_refl _)]
  rfl
 | a :: l, j + 1, h => by
  have ih := flatA_get f sz hf l j (by simpa using h)
  rw [List.flatMap_cons, Nat.add_mul, Nat.one_mul, Nat.add_comm, ← List.drop_drop, List.drop_left' (hf a), ih]
  simp [el]
theorem OpS.indexF {P : Program} {G : List (Nat × Array Value)} {dst : Option Tmp} {ty : TypeId} {pos : String} {aft : Array Edge} {gd : Option (Nat × Bool)} {α : Type} [Inhabited α] {tx e : TypeId} {inf : TypeInfo} {x i : Operand} {o : Option Nat} {n j sz : Nat} {f : α → List AV} {l : List α} {k : IntKind} {m : Int} (hu : P.underlying tx = some (.slice e)) (hi : P.info? e = some inf) (hz : inf.size = sz) (hf : ∀ a, (f a).length = sz) (hsz : 0 < sz) (hj : m.toNat = j)
  (h0 : 0 ≤ m) (h1 : m < (n : Int)) (hl : n = l.length) :
  OpS P G ⟨dst, .indexAddr tx x i, ty, pos, aft, gd⟩ [(x, .sl o n (l.flatMap f)), (i, .v (.int k m))] [] ⟨some (.sptr (f (el l j))), [], []⟩ := by
 subst hj
 have := OpS.indexAddr (P := P) (G := G) (dst := dst) (ty := ty) (pos := pos) (aft := aft) (gd := gd) (x := x) (i := i) (o := o) (n := n) (cs := l.flatMap f) (k := k) hu hi hz h0 h1 (by rw [flatA_len f sz hf, hl]) hsz
 rw [flatA_get f sz hf l m.toNat (by omega)] at this
 exact this
theorem el_tb (l : List TB) (b : Nat) : el l b = tb l b := rfl
abbrev tbs (l : List TB) : List AV := l.flatMap tbA
theorem renL_tb1 (π : Nat → Nat) (p : TB) : AV.renL π (tbA p) = tbA p := rfl
@[simp] theorem belL_tb1 (u : Nat → Bool) (p : TB) : AV.belL u (tbA p) := ⟨trivial, trivial, trivial⟩
theorem renL_tbs (π : Nat → Nat) : ∀ l : List TB, AV.renL π (l.flatMap tbA) = l.flatMap tbA
 | [] => rfl
 | a :: l => by rw [List.flatMap_cons, renL_append, renL_tbs π l]; rfl
theorem belL_app (u : Nat → Bool) : ∀ (a b : List AV), AV.belL u a → AV.belL u b → AV.belL u (a ++ b)
 | [], _, _, hb => hb
 | _ :: a, b, ha, hb => ⟨ha.1, belL_app u a b ha.2 hb⟩
@[simp] theorem belL_tbs (u : Nat → Bool) : ∀ l : List TB, AV.belL u (l.flatMap tbA)
 | [] => trivial
 | a :: l => by rw [List.flatMap_cons]; exact belL_app u _ _ ⟨trivial, trivial, trivial⟩ (belL_tbs u l)
abbrev trC (l : List TB) : List AV := [.sl (some 1) l.length (l.flatMap tbA)]
abbrev trH (l : List TB) : List (Option AO) := [some (.cells 140 (trC l)), some (.tip 137 2 l.length)]
theorem tr_bel (u : Nat → Bool) (hu : u 1 = true) (l : List TB) : belH u (trH l) := ⟨⟨⟨fun k hk => by cases hk; exact hu, belL_tbs _ _⟩, trivial⟩, trivial, trivial⟩
theorem flatA_app (l : List TB) (v : UInt64) (h p : Nat) : l.flatMap tbA ++ [.v (.int .u64 (U64 v)), .v (.complex .f64 (f64 h) (f64 p))] = (l ++ [(v, h, p)]).flatMap tbA := by
 rw [List.flatMap_append]
 rfl
theorem U64_lt {a b : UInt64} (h : a.toNat < b.toNat) : U64 a < U64 b := by unfold U64; omega
theorem U64_ne {a b : UInt64} (h : a ≠ b) : U64 a ≠ U64 b := by
 unfold U64
 intro e
 exact h (UInt64.toNat_inj.1 (by omega))
attribute [local irreducible] f64 tb
section
variable {G : List (Nat × Array Value)}
theorem tNew_fc : FC Tryz.prog G 55 [] [] (.ptr 0 0) (trH [(0, 0, 0)]) := by
 have h0 := f64_0
 refine FC.of_wp [0] Tryz.func55 rfl rfl rfl rfl trivial trivial (Nat.le_of_ble_eq_true rfl) ?_
 intro A hG hnA hAB
 unfold start
 refine WP.rs hG (Ch.asg rfl rfl (Ch.nil (WP.rs hG (Ch.pup gdN (by repeat (first | exact EvP.nil | (apply EvP.cons; exact rfl))) (OpS.build (cs := [.v (.int .u64 0), .v (.complex .f64 0 0)]) rfl rfl rfl rfl rfl (by rfl)) rfl ?_))))
 refine Ch.alp gdN (by repeat (first | exact EvP.nil | (apply EvP.cons; exact rfl))) (OpS.buildSliceT (n := 1) (sz := 2) (cs := [.v (.int .u64 0), .v (.complex .f64 0 0)]) 1 rfl rfl rfl rfl (by decide) (by decide) rfl rfl (by rfl) (by unfold maxLen; omega) rfl) (by exact ⟨rfl, trivial⟩) rfl ?_
 refine Ch.pup gdN (by repeat (first | exact EvP.nil | (apply EvP.cons; exact rfl))) (OpS.build rfl rfl rfl rfl rfl (by rfl)) rfl ?_
 refine Ch.a1 rfl (OpS.box 0 rfl) rfl rfl (Ch.asg rfl rfl (Ch.nil (WP.ret ?_)))
 have e : trH [(0, 0, 0)] = [some (.cells 140 [.sl (some 1) 1 [.v (.int .u64 0), .v (.complex .f64 0 0)]]), some (.tip 137 2 1)] := by
  show [some (AO.cells _ [.sl (some 1) 1 [.v (.int .u64 (U64 0)), .v (.complex .f64 (f64 0) (f64 0))]]), _] = _
  rw [h0]
  rfl
 rw [e]
 refine (Ret.of (rs := [0]) (vs := [.ptr 0 0]) (H' := [some (.cells 140 [.sl (some 1) 1 [.v (.int .u64 0), .v (.complex .f64 0 0)]]), some (.tip 137 2 1)]) (res := .ptr 0 0) [0, 1] ?_ ?_ rfl ?_ (by simp only [List.length_cons, List.length_nil]; decide) ?_).1
 · exact na_of hnA rfl
 · (repeat (first | exact trivial | (refine ⟨⟨(by trivial), _, rfl, .rfl _⟩, ?_⟩)))
 · (repeat (first | exact trivial | refine HFromL.skip ?_ | (refine ⟨⟨(by trivial), (by rfl)⟩, ?_⟩)))
 rfl
theorem bHeight_fc (x : TB) (hx : x.2.1 ≤ 256) : FC Tryz.prog G 133 [.agg (tbA x)] [] (.v (.int .i64 (x.2.1 : Int))) [] := by
 have hb := f64_back hx
 have hs := i64_small hx
 refine FC.of_wp [2] Tryz.func133 rfl rfl rfl rfl ⟨⟨trivial, trivial, trivial⟩, trivial⟩ trivial (Nat.le_of_ble_eq_true rfl) ?_
 intro A hG hnA hAB
 unfold start
 refine WP.rs hG (Ch.a1 rfl (OpS.box 0 rfl) rfl rfl (Ch.asg rfl rfl (Ch.nil (WP.rs hG (Ch.p1 rfl (OpS.fieldAddr rfl rfl rfl rfl) rfl (Ch.q1 rfl (OpS.loadP rfl rfl rfl) rfl rfl (Ch.p1 rfl (OpS.real) rfl (Ch.p1 rfl (OpS.f2i rfl rfl hb hs) rfl (Ch.asg rfl rfl ?_)))))))))
 refine Ch.nil (WP.ret ?_)
 refine (Ret.of (rs := [2]) (vs := [.v (.int .i64 (x.2.1 : Int))]) (H' := []) (res := .v (.int .i64 (x.2.1 : Int))) [] ?_ ?_ rfl ?_ (by simp only [List.length_cons, List.length_nil]; decide) ?_).1
 · exact na_of hnA rfl
 · (repeat (first | exact trivial | (refine ⟨⟨(by trivial), _, rfl, .rfl _⟩, ?_⟩)))
 · (repeat (first | exact trivial | refine HFromL.skip ?_ | (refine ⟨⟨(by first | trivial | (simp; first | done | fail) | exact ⟨trivial, hbel _⟩), (by first | rfl | (simp; first | done | fail))⟩, ?_⟩)))
 rfl
theorem bParent_fc (x : TB) (hx : x.2.2 ≤ 256) : FC Tryz.prog G 102 [.agg (tbA x)] [] (.v (.int .i64 (x.2.2 : Int))) [] := by
 have hb := f64_back hx
 have hs := i64_small hx
 refine FC.of_wp [2] Tryz.func102 rfl rfl rfl rfl ⟨⟨trivial, trivial, trivial⟩, trivial⟩ trivial (Nat.le_of_ble_eq_true rfl) ?_
 intro A hG hnA hAB
 unfold start
 refine WP.rs hG (Ch.a1 rfl (OpS.box 0 rfl) rfl rfl (Ch.asg rfl rfl (Ch.nil (WP.rs hG (Ch.p1 rfl (OpS.fieldAddr rfl rfl rfl rfl) rfl (Ch.q1 rfl (OpS.loadP rfl rfl rfl) rfl rfl (Ch.p1 rfl (OpS.imag) rfl (Ch.p1 rfl (OpS.f2i rfl rfl hb hs) rfl (Ch.asg rfl rfl ?_)))))))))
 refine Ch.nil (WP.ret ?_)
 refine (Ret.of (rs := [2]) (vs := [.v (.int .i64 (x.2.2 : Int))]) (H' := []) (res := .v (.int .i64 (x.2.2 : Int))) [] ?_ ?_ rfl ?_ (by simp only [List.length_cons, List.length_nil]; decide) ?_).1
 · exact na_of hnA rfl
 · (repeat (first | exact trivial | (refine ⟨⟨(by trivial), _, rfl, .rfl _⟩, ?_⟩)))
 · (repeat (first | exact trivial | refine HFromL.skip ?_ | (refine ⟨⟨(by first | trivial | (simp; first | done | fail) | exact ⟨trivial, hbel _⟩), (by first | rfl | (simp; first | done | fail))⟩, ?_⟩)))
 rfl
theorem tAt_fc (l : List TB) (b : Nat) (hb : b < l.length) (hl : l.length ≤ 256) : FC Tryz.prog G 89 [.ptr 0 0, .v (.int .i64 (b : Int))] (trH l) (.sptr (tbA (tb l b))) (trH l) := by
 have he := el_tb l b
 refine FC.of_wp [4] Tryz.func89 rfl rfl rfl rfl ⟨rfl, trivial, trivial⟩ (tr_bel _ rfl l) (Nat.le_of_ble_eq_true rfl) ?_
 intro A hG hnA hAB
 unfold start
 refine WP.rs hG (Ch.asg rfl rfl (Ch.nil (WP.seq (WP.rs hG (Ch.mv rfl rfl (Ch.p2 rfl rfl (OpS.lssF (by omega)) rfl ?_))))))
 refine Ch.mv rfl rfl (Ch.gm rfl rfl rfl rfl (Ch.gm rfl rfl rfl rfl (Ch.g1 rfl rfl rfl (OpS.nilCheckP) rfl (Ch.g1 rfl rfl rfl (OpS.fieldAddr rfl rfl rfl rfl) rfl (Ch.pu (by exact gdT rfl rfl) (by exact ⟨rfl, trivial⟩) (OpS.loadP rfl rfl rfl) (by exact ⟨rfl, trivial⟩) rfl ?_)))))
 refine Ch.g1 rfl rfl rfl (OpS.len rfl) rfl (Ch.g2 rfl rfl rfl rfl (OpS.geqF (by omega)) rfl ?_)
 refine Ch.p2 rfl rfl (OpS.pickF) rfl (Ch.nil (WP.cond_false rfl (WP.skip (WP.rs hG (Ch.mv rfl rfl (Ch.p1 rfl (OpS.nilCheckP) rfl (Ch.p1 rfl (OpS.fieldAddr rfl rfl rfl rfl) rfl (Ch.q1 rfl (OpS.loadP rfl rfl rfl) rfl rfl (Ch.mv rfl rfl ?_)))))))))
 refine Ch.p2 rfl rfl (OpS.indexF rfl rfl rfl tbA_len (by decide) (Int.toNat_natCast _) (by omega) (by omega) rfl) rfl ?_
 refine Ch.asg rfl rfl (Ch.nil (WP.ret ?_))
 rw [← he]
 refine (Ret.of (rs := [4]) (vs := [.sptr (tbA (el l b))]) (H' := trH l) (res := .sptr (tbA (el l b))) [0, 1] ?_ ?_ rfl ?_ (by simp only [List.length_cons, List.length_nil]; decide) ?_).1
 · exact na_of hnA rfl
 · (repeat (first | exact trivial | (refine ⟨⟨(by trivial), _, rfl, .rfl _⟩, ?_⟩)))
 · (repeat (first | exact trivial | refine HFromL.skip ?_ | (refine ⟨⟨(by first | trivial | (simp; first | done | fail)), (by first | rfl | (simp [renL_tbs, renL_tb1]; first | done | fail))⟩, ?_⟩)))
 rfl
theorem tView_fc (l : List TB) (b : Nat) (hb : b < l.length) (hl : l.length ≤ 256) : FC Tryz.prog G 59 [.ptr 0 0, .v (.int .i64 (b : Int))] (trH l) (.v (.int .u64 (U64 (vwT l b)))) (trH l) := by
 refine FC.of_wp [4] Tryz.func59 rfl rfl rfl rfl ⟨rfl, trivial, trivial⟩ (tr_bel _ rfl l) (Nat.le_of_ble_eq_true rfl) ?_
 intro A hG hnA hAB
 unfold start
 refine WP.rs hG (Ch.asg rfl rfl (Ch.nil (WP.seq (WP.rs hG (Ch.mv rfl rfl (Ch.mv rfl rfl ?_))))))
 refine Ch.cH (tAt_fc l b hb hl) [0,1] 2 gdN (.cons rfl (.cons rfl .nil)) (.c (.rfl _) (.c (.rfl _) .n)) rfl (by refine ⟨?_, ?_, ?_, ?_⟩ <;> first | ((conv => lhs; simp only [nrmA, Nat.reduceAdd, renL_tbs, renL_tb1]); all_goals rfl) | rfl) (by exact ⟨rfl, rfl, trivial⟩) (by exact trivial) rfl ?_
 refine Ch.asg rfl rfl (Ch.nil (WP.rs hG (Ch.mv rfl rfl (Ch.p2 rfl rfl (OpS.neNil (.s _) rfl) rfl (Ch.nil (WP.cond_true rfl (WP.rs hG (Ch.mv rfl rfl (Ch.p1 rfl (OpS.nilCheckS) rfl ?_)))))))))
 refine Ch.p1 rfl (OpS.fieldAddrS rfl rfl rfl rfl rfl) rfl (Ch.p1 rfl (OpS.loadS rfl rfl) rfl (Ch.asg rfl rfl (Ch.nil (WP.ret ?_))))
 refine (Ret.of (rs := [4]) (vs := [.v (.int .u64 (U64 (vwT l b)))]) (H' := trH l) (res := .v (.int .u64 (U64 (vwT l b)))) [0, 1] ?_ ?_ rfl ?_ (by simp only [List.length_cons, List.length_nil]; decide) ?_).1
 · exact na_of hnA rfl
 · (repeat (first | exact trivial | (refine ⟨⟨(by trivial), _, rfl, .rfl _⟩, ?_⟩)))
 · (repeat (first | exact trivial | refine HFromL.skip ?_ | (refine ⟨⟨(by first | trivial | (simp; first | done | fail)), (by first | rfl | (simp [renL_tbs, renL_tb1]; first | done | fail))⟩, ?_⟩)))
 rfl
theorem tParent_fc (l : List TB) (b : Nat) (hb : b < l.length) (hl : l.length ≤ 256) (hp : prT l b ≤ 256) : FC Tryz.prog G 64 [.ptr 0 0, .v (.int .i64 (b : Int))] (trH l) (.v (.int .i64 (prT l b : Int))) (trH l) := by
 have hf := bParent_fc (G := G) (tb l b) hp
 refine FC.of_wp [4] Tryz.func64 rfl rfl rfl rfl ⟨rfl, trivial, trivial⟩ (tr_bel _ rfl l) (Nat.le_of_ble_eq_true rfl) ?_
 intro A hG hnA hAB
 unfold start
 refine WP.rs hG (Ch.asg rfl rfl (Ch.nil (WP.seq (WP.rs hG (Ch.mv rfl rfl (Ch.mv rfl rfl ?_))))))
 refine Ch.cH (tAt_fc l b hb hl) [0,1] 2 gdN (.cons rfl (.cons rfl .nil)) (.c (.rfl _) (.c (.rfl _) .n)) rfl (by refine ⟨?_, ?_, ?_, ?_⟩ <;> first | ((conv => lhs; simp only [nrmA, Nat.reduceAdd, renL_tbs, renL_tb1]); all_goals rfl) | rfl) (by exact ⟨rfl, rfl, trivial⟩) (by exact trivial) rfl ?_
 refine Ch.asg rfl rfl (Ch.nil (WP.rs hG (Ch.mv rfl rfl (Ch.p2 rfl rfl (OpS.neNil (.s _) rfl) rfl (Ch.nil (WP.cond_true rfl (WP.rs hG (Ch.mv rfl rfl (Ch.p1 rfl (OpS.nilCheckS) rfl ?_)))))))))
 refine Ch.p1 rfl (OpS.loadSA rfl rfl rfl) rfl (Ch.callP (hf) gdN (.cons rfl .nil) (.c (.rfl _) .n) (by rfl) rfl ?_)
 refine Ch.asg rfl rfl (Ch.nil (WP.ret ?_))
 refine (Ret.of (rs := [4]) (vs := [.v (.int .i64 (prT l b : Int))]) (H' := trH l) (res := .v (.int .i64 (prT l b : Int))) [0, 1] ?_ ?_ rfl ?_ (by simp only [List.length_cons, List.length_nil]; decide) ?_).1
 · exact na_of hnA rfl
 · (repeat (first | exact trivial | (refine ⟨⟨(by trivial), _, rfl, .rfl _⟩, ?_⟩)))
 · (repeat (first | exact trivial | refine HFromL.skip ?_ | (refine ⟨⟨(by first | trivial | (simp; first | done | fail)), (by first | rfl | (simp [renL_tbs, renL_tb1]; first | done | fail))⟩, ?_⟩)))
 rfl
end
end Go.Proofs.YtpnbpcopdckgpaaGreatDoor.E
namespace Go.Proofs.YtpnbpcopdckgpaaGreatDoor.E
open Go Go.RowKit V
set_option maxRecDepth 4000
set_option maxRecDepth 4000
attribute [local irreducible] f64 tb
section
variable {G : List (Nat × Array Value)}
theorem tAdd_fc (l : List TB) (p : Nat) (v : UInt64) (hp : p < l.length) (hl : l.length < 256) (hh : htT l p ≤ 255) (hv : (vwT l p).toNat < v.toNat) : FC Tryz.prog G 132 [.ptr 0 0, .v (.int .i64 (p : Int)), .v (.int .u64 (U64 v))] (trH l)
  (.tup [.v (.int .i64 (l.length : Int)), .v (.int .i64 0)]) [some (.cells 140 [.sl (some 2) (l.length + 1) ((l ++ [(v, htT l p + 1, p)]).flatMap tbA)]), none, some (.tip 137 2 (l.length + 1))] := by
 have hat := tAt_fc (G := G) l p hp (by omega)
 have hf := bHeight_fc (G := G) (tb l p) (show htT l p ≤ 256 by omega)
 have hx : (tb l p).2.1 = htT l p := rfl
 have hx1 : U64 (tb l p).1 < U64 v := U64_lt hv
 rw [hx] at hf
 have e := flatA_app l v (htT l p + 1) p
 refine FC.of_wp [6, 7] Tryz.func132 rfl rfl rfl rfl ⟨rfl, trivial, trivial, trivial⟩ (tr_bel _ rfl l) (Nat.le_of_ble_eq_true rfl) ?_
 intro A hG hnA hAB
 unfold start
 refine WP.rs hG (Ch.asg rfl rfl (Ch.asg rfl rfl (Ch.nil (WP.rs hG (Ch.mv rfl rfl (Ch.mv rfl rfl ?_))))))
 refine Ch.cH (hat) [0,1] 2 gdN (.cons rfl (.cons rfl .nil)) (.c (.rfl _) (.c (.rfl _) .n)) rfl (by refine ⟨?_, ?_, ?_, ?_⟩ <;> first | ((conv => lhs; simp only [nrmA, Nat.reduceAdd, renL_tbs, renL_tb1]); all_goals rfl) | rfl) (by exact ⟨rfl, rfl, trivial⟩) (by exact trivial) rfl ?_
 refine Ch.asg rfl rfl (Ch.nil (WP.seq (WP.rs hG (Ch.mv rfl rfl (Ch.p2 rfl rfl (OpS.eqNil (.s _) rfl) rfl (Ch.mv rfl rfl (Ch.gm rfl rfl rfl rfl (Ch.gm rfl rfl rfl rfl (Ch.g1 rfl rfl rfl (OpS.nilCheckS) rfl ?_)))))))))
 refine Ch.g1 rfl rfl rfl (OpS.fieldAddrS rfl rfl rfl rfl rfl) rfl (Ch.g1 rfl rfl rfl (OpS.loadS rfl rfl) rfl (Ch.g2 rfl rfl rfl rfl (OpS.leqF (by omega)) rfl ?_))
 refine Ch.p2 rfl rfl (OpS.pickF) rfl (Ch.mv rfl rfl (Ch.gm rfl rfl rfl rfl (Ch.g1 rfl rfl rfl (OpS.nilCheckP) rfl (Ch.g1 rfl rfl rfl (OpS.fieldAddr rfl rfl rfl rfl) rfl (Ch.pu (by exact gdT rfl rfl) (by exact ⟨rfl, trivial⟩) (OpS.loadP rfl rfl rfl) (by exact ⟨rfl, trivial⟩) rfl ?_)))))
 refine Ch.g1 rfl rfl rfl (OpS.len rfl) rfl (Ch.g2 rfl rfl rfl rfl (OpS.geqF (by omega)) rfl ?_)
 refine Ch.p2 rfl rfl (OpS.pickF) rfl (Ch.nil (WP.cond_false rfl (WP.skip (WP.rsD (by kernel_rfl) hG (Ch.mv rfl rfl (Ch.mv rfl rfl (Ch.p1 rfl (OpS.nilCheckP) rfl (Ch.p1 rfl (OpS.fieldAddr rfl rfl rfl rfl) rfl (Ch.q1 rfl (OpS.loadP rfl rfl rfl) rfl rfl ?_)))))))))
 refine Ch.mv rfl rfl (Ch.mv rfl rfl (Ch.p1 rfl (OpS.nilCheckS) rfl (Ch.p1 rfl (OpS.loadSA rfl rfl rfl) rfl (Ch.callP (hf) gdN (.cons rfl .nil) (.c (.rfl _) .n) (by rfl) rfl ?_))))
 refine Ch.p2 rfl rfl (OpS.int (op := .add) (v' := .int .i64 ((htT l p + 1 : Nat) : Int)) rfl (by rw [wr64 (by omega)]; exact congrArg (Value.int .i64) (by omega))) rfl ?_
 refine Ch.p1 rfl (OpS.i2f rfl rfl (f64_near _)) rfl (Ch.mv rfl rfl (Ch.p1 rfl (OpS.i2f rfl rfl (f64_near _)) rfl (Ch.p2 rfl rfl (OpS.complex) rfl (Ch.pup gdN (by repeat (first | exact EvP.nil | (apply EvP.cons; exact rfl))) (OpS.build (cs := tbA (v, htT l p + 1, p)) rfl rfl rfl rfl rfl (by rfl)) rfl ?_))))
 refine Ch.pup gdN (by repeat (first | exact EvP.nil | (apply EvP.cons; exact rfl))) (OpS.buildSlice (n := 1) (sz := 2) (cs := tbA (v, htT l p + 1, p)) rfl rfl rfl rfl (by decide) (by decide) rfl rfl (by rfl) (by unfold maxLen; omega)) rfl ?_
 refine Ch.a2 rfl rfl (OpS.append (sz := 2) (bb := 24) 2 rfl rfl rfl rfl rfl (by decide) (SrcA.sl rfl (by exact rfl)) (flatA_len tbA 2 tbA_len l) rfl (by unfold maxLen; omega) rfl (by omega)) rfl rfl rfl ?_
 refine Ch.p1 rfl (OpS.nilCheckP) rfl (Ch.p1 rfl (OpS.fieldAddr rfl rfl rfl rfl) rfl (Ch.ws rfl rfl (OpS.storeP (cs := trC l) rfl rfl rfl (by simp)) rfl ?_))
 refine Ch.nilD ?_ (by kernel_rfl)
 refine WP.rs hG (Ch.mv rfl rfl (Ch.p1 rfl (OpS.nilCheckP) rfl (Ch.p1 rfl (OpS.fieldAddr rfl rfl rfl rfl) rfl (Ch.q1 rfl (OpS.loadP rfl rfl rfl) rfl rfl (Ch.p1 rfl (OpS.len rfl) rfl (Ch.p2 rfl rfl (OpS.int (op := .sub) (v' := .int .i64 (l.length : Int)) rfl (by rw [wr64 (by omega)]; exact congrArg (Value.int .i64) (by omega))) rfl ?_))))))
 refine Ch.asg rfl rfl (Ch.asg rfl rfl (Ch.nil (WP.ret ?_)))
 rw [← e]
 refine (Ret.of (rs := [6, 7]) (vs := [.v (.int .i64 (l.length : Int)), .v (.int .i64 0)]) (H' := [some (.cells 140 [.sl (some 2) (l.length + 1) (l.flatMap tbA ++ tbA (v, htT l p + 1, p))]), none, some (.tip 137 2 (l.length + 1))]) (res := .tup [.v (.int .i64 (l.length : Int)), .v (.int .i64 0)]) [0, 1, 2] ?_ ?_ rfl ?_ (by simp only [List.length_cons, List.length_nil]; decide) ?_).1
 · exact na_of hnA rfl
 · (repeat (first | exact trivial | (refine ⟨⟨(by trivial), _, rfl, .rfl _⟩, ?_⟩)))
 · (repeat (first | exact trivial | refine HFromL.skip ?_ | (refine ⟨⟨(by first | trivial | (simp; first | done | fail)), (by first | rfl | (simp [renL_tbs, renL_tb1, renL_append]; first | done | fail))⟩, ?_⟩)))
 exact ⟨_, rfl, rfl, by simp [ls, TsOk, List.zip, List.zipWith]⟩
theorem tExt_fc (l : List TB) (hw : WfT l) (a b : Nat) (ha : a < l.length) (hb : b < l.length) : FC Tryz.prog G 159 [.ptr 0 0, .v (.int .i64 (a : Int)), .v (.int .i64 (b : Int))] (trH l) (.v (.bool (extT l a b))) (trH l) := by
 have hl := hw.le
 have ha1 := tAt_fc (G := G) l a ha hl
 have hb1 := tAt_fc (G := G) l b hb hl
 have hha := hw.htle ha
 have fa := bHeight_fc (G := G) (tb l a) (show htT l a ≤ 256 by omega)
 rw [show (tb l a).2.1 = htT l a from rfl] at fa
 refine FC.of_wp [6] Tryz.func159 rfl rfl rfl rfl ⟨rfl, trivial, trivial, trivial⟩ (tr_bel _ rfl l) (Nat.le_of_ble_eq_true rfl) ?_
 intro A hG hnA hAB
 unfold start
 refine WP.rs hG (Ch.asg rfl rfl (Ch.nil (WP.rs hG (Ch.mv rfl rfl (Ch.mv rfl rfl ?_)))))
 refine Ch.cH (ha1) [0,1] 2 gdN (.cons rfl (.cons rfl .nil)) (.c (.rfl _) (.c (.rfl _) .n)) rfl (by refine ⟨?_, ?_, ?_, ?_⟩ <;> first | ((conv => lhs; simp only [nrmA, Nat.reduceAdd, renL_tbs, renL_tb1]); all_goals rfl) | rfl) (by exact ⟨rfl, rfl, trivial⟩) (by exact trivial) rfl ?_
 refine Ch.mv rfl rfl (Ch.mv rfl rfl ?_)
 refine Ch.cH (hb1) [0,1] 2 gdN (.cons rfl (.cons rfl .nil)) (.c (.rfl _) (.c (.rfl _) .n)) rfl (by refine ⟨?_, ?_, ?_, ?_⟩ <;> first | ((conv => lhs; simp only [nrmA, Nat.reduceAdd, renL_tbs, renL_tb1]); all_goals rfl) | rfl) (by exact ⟨rfl, rfl, trivial⟩) (by exact trivial) rfl ?_
 refine Ch.asg rfl rfl (Ch.asg rfl rfl (Ch.nil (WP.seq (WP.rs hG (Ch.mv rfl rfl (Ch.p2 rfl rfl (OpS.eqNil (.s _) rfl) rfl (Ch.mv rfl rfl (Ch.gm rfl rfl rfl rfl (Ch.g2 rfl rfl rfl rfl (OpS.eqNil (.s _) rfl) rfl ?_)))))))))
 refine Ch.p2 rfl rfl (OpS.pickF) rfl (Ch.nil (WP.cond_false rfl (WP.skip (WP.seq (WP.block ?_)))))
 refine WP.loop (fun k σ => ∃ c : Nat, c < l.length ∧ htT l c - htT l a = k ∧ upT l k c = upT l (htT l b - htT l a) b ∧ σ = ⟨40, ls [(0, .ptr 0 0), (1, .v (.int .i64 (a : Int))), (2, .v (.int .i64 (c : Int))), (7, .sptr (tbA (tb l a))), (8, .sptr (tbA (tb l c)))], lh [(0, .cells 140 (trC l)), (1, .tip 137 2 l.length)], blt 2⟩) (htT l b - htT l a) (Ent.of [0, 1] ?_ ?_ ?_ ?_).se ⟨b, hb, rfl, rfl, rfl⟩ ?_
 · exact na_of hnA rfl
 · (repeat (first | exact trivial | (refine ⟨⟨(by trivial), _, rfl, .rfl _⟩, ?_⟩)))
 · (repeat (first | exact trivial | (refine ⟨⟨rfl, (by first | trivial | (simp; first | done | fail)), (by first | rfl | (simp [renL_tbs, renL_tb1]; first | done | fail))⟩, ?_⟩)))
 · exact nd_of rfl
 rintro k σ ⟨c, hc, hk, hu, rfl⟩
 have hhc := hw.htle hc
 have fc := bHeight_fc (G := G) (tb l c) (show htT l c ≤ 256 by omega)
 rw [show (tb l c).2.1 = htT l c from rfl] at fc
 refine WP.seq (WP.rsD (by kernel_rfl) hG (Ch.mv rfl rfl (Ch.p1 rfl (OpS.nilCheckS) rfl (Ch.p1 rfl (OpS.loadSA rfl rfl rfl) rfl (Ch.callP (fc) gdN (.cons rfl .nil) (.c (.rfl _) .n) (by rfl) rfl ?_)))))
 refine Ch.mv rfl rfl (Ch.p1 rfl (OpS.nilCheckS) rfl (Ch.p1 rfl (OpS.loadSA rfl rfl rfl) rfl (Ch.callP (fa) gdN (.cons rfl .nil) (.c (.rfl _) .n) (by rfl) rfl ?_)))
 refine Ch.p2 rfl rfl (OpS.int (op := .gtr) (v' := .bool (decide (htT l a < htT l c))) rfl (by exact congrArg Value.bool (decide_eq_decide.2 (by omega)))) rfl ?_
 refine Ch.nilD ?_ (by kernel_rfl)
 refine WP.cond rfl ?_ ?_
 ·
  intro ht
  have ht' := of_decide_eq_true ht
  have hc0 : 0 < c := by
   rcases Nat.eq_zero_or_pos c with h | h
   ·
    rw [h, hw.ht_0] at ht'
    omega
   exact h
  obtain ⟨g1, g2⟩ := hw.up c hc0 hc
  have fp := bParent_fc (G := G) (tb l c) (show prT l c ≤ 256 by omega)
  rw [show (tb l c).2.2 = prT l c from rfl] at fp
  have hat := tAt_fc (G := G) l (prT l c) (by omega) hl
  obtain ⟨k, rfl⟩ : ∃ j, k = j + 1 := ⟨k - 1, by omega⟩
  refine WP.skip (WP.block (WP.rs hG (Ch.mv rfl rfl (Ch.p1 rfl (OpS.nilCheckS) rfl (Ch.p1 rfl (OpS.loadSA rfl rfl rfl) rfl (Ch.callP (fp) gdN (.cons rfl .nil) (.c (.rfl _) .n) (by rfl) rfl ?_))))))
  refine Ch.asg rfl rfl (Ch.nil (WP.rg hG (Ch.mv rfl rfl (Ch.mv rfl rfl ?_))))
  refine Ch.cH (hat) [0,1] 2 gdN (.cons rfl (.cons rfl .nil)) (.c (.rfl _) (.c (.rfl _) .n)) rfl (by refine ⟨?_, ?_, ?_, ?_⟩ <;> first | ((conv => lhs; simp only [nrmA, Nat.reduceAdd, renL_tbs, renL_tb1]); all_goals rfl) | rfl) (by exact ⟨rfl, rfl, trivial⟩) (by exact trivial) rfl ?_
  refine Ch.asg rfl rfl (Ch.nil ?_)
  refine ⟨k, _, by omega, (Ent.of [0, 1] ?_ ?_ ?_ ?_).se, prT l c, by omega, by omega, hu, rfl⟩
  · exact na_of hnA rfl
  · (repeat (first | exact trivial | (refine ⟨⟨(by trivial), _, rfl, .rfl _⟩, ?_⟩)))
  · (repeat (first | exact trivial | (refine ⟨⟨rfl, (by first | trivial | (simp; first | done | fail)), (by first | rfl | (simp [renL_tbs, renL_tb1]; first | done | fail))⟩, ?_⟩)))
  exact nd_of rfl
 intro ht
 have ht' := of_decide_eq_false ht
 obtain rfl : k = 0 := by omega
 have hres : decide ((a : Int) = (c : Int)) = extT l a b := by
  unfold extT
  rw [← hu]
  exact decide_eq_decide.2 ⟨fun h => by exact_mod_cast h, fun h => by exact_mod_cast h⟩
 refine WP.exit (WP.rs hG (Ch.mv rfl rfl (Ch.mv rfl rfl (Ch.p2 rfl rfl (OpS.int (op := .eql) (v' := .bool (decide ((a : Int) = (c : Int)))) rfl rfl) rfl (Ch.asg rfl rfl (Ch.nil (WP.ret ?_)))))))
 rw [← hres]
 refine (Ret.of (rs := [6]) (vs := [.v (.bool (decide ((a : Int) = (c : Int))))]) (H' := trH l) (res := .v (.bool (decide ((a : Int) = (c : Int))))) [0, 1] ?_ ?_ rfl ?_ (by simp only [List.length_cons, List.length_nil]; decide) ?_).1
 · exact na_of hnA rfl
 · (repeat (first | exact trivial | (refine ⟨⟨(by trivial), _, rfl, .rfl _⟩, ?_⟩)))
 · (repeat (first | exact trivial | refine HFromL.skip ?_ | (refine ⟨⟨(by first | trivial | (simp; first | done | fail)), (by first | rfl | (simp [renL_tbs, renL_tb1]; first | done | fail))⟩, ?_⟩)))
 rfl
end
end Go.Proofs.YtpnbpcopdckgpaaGreatDoor.E
namespace Go.Proofs.YtpnbpcopdckgpaaGreatDoor.E
open Go Go.RowKit V
set_option maxRecDepth 4000
set_option maxRecDepth 4000
attribute [local irreducible] f64 tb
theorem u64_succ (c : UInt64) : Value.int .u64 (IntKind.u64.wrap (U64 c + 1)) = .int .u64 (U64 (c + 1)) := by
 rw [IntKind.wrap_u64]
 unfold U64
 rw [UInt64.toNat_add, show (1 : UInt64).toNat = 1 from rfl]
 exact congrArg (Value.int .u64) (by omega)
theorem may_f {l : List TB} {vo : UInt64} {lk b : Nat} (h : (vwT l b).toNat ≤ vo.toNat) : mayT l vo lk b = false := by
 unfold mayT
 by_cases h0 : b = 0
 · rw [if_pos h0]
 rw [if_neg h0, if_pos h]
theorem may_t {l : List TB} {vo : UInt64} {lk b : Nat} (h0 : b ≠ 0) (h : ¬ (vwT l b).toNat ≤ vo.toNat) (h2 : (vwT l lk).toNat < (vwT l (prT l b)).toNat) : mayT l vo lk b = true := by
 unfold mayT
 rw [if_neg h0, if_neg h, if_pos h2]
theorem may_e {l : List TB} {vo : UInt64} {lk b : Nat} (h0 : b ≠ 0) (h : ¬ (vwT l b).toNat ≤ vo.toNat) (h2 : ¬ (vwT l lk).toNat < (vwT l (prT l b)).toNat) : mayT l vo lk b = extT l lk b := by
 unfold mayT
 rw [if_neg h0, if_neg h, if_neg h2]
theorem may_0 {l : List TB} {vo : UInt64} {lk : Nat} : mayT l vo lk 0 = false := if_pos rfl
section
variable {G : List (Nat × Array Value)}
theorem tMay_fc (l : List TB) (hw : WfT l) (vo : UInt64) (lk b : Nat) (hk : lk < l.length) (hb : b < l.length) : FC Tryz.prog G 135 [.ptr 0 0, .agg [.v (.int .u64 (U64 vo)), .v (.int .i64 (lk : Int))], .v (.int .i64 (b : Int))] (trH l) (.v (.bool (mayT l vo lk b))) (trH l) := by
 have hl := hw.le
 have hb1 := tAt_fc (G := G) l b hb hl
 have hk1 := tAt_fc (G := G) l lk hk hl
 have hp := hw.pr_lt hb
 have fp := bParent_fc (G := G) (tb l b) (show prT l b ≤ 256 by omega)
 rw [show (tb l b).2.2 = prT l b from rfl] at fp
 have fv := tView_fc (G := G) l (prT l b) hp.1 hl
 have fe := tExt_fc (G := G) l hw lk b hk hb
 have e1 : U64 (tb l b).1 = ((vwT l b).toNat : Int) := rfl
 have e2 : U64 vo = (vo.toNat : Int) := rfl
 have e3 : U64 (tb l lk).1 = ((vwT l lk).toNat : Int) := rfl
 have e4 : U64 (vwT l (prT l b)) = ((vwT l (prT l b)).toNat : Int) := rfl
 obtain ⟨R, hR⟩ : ∃ R, R = mayT l vo lk b := ⟨_, rfl⟩
 rw [← hR]
 refine FC.of_wp [6] Tryz.func135 rfl rfl rfl rfl ⟨rfl, ⟨trivial, trivial, trivial⟩, trivial, trivial⟩ (tr_bel _ rfl l) (Nat.le_of_ble_eq_true rfl) ?_
 intro A hG hnA hAB
 unfold start
 refine WP.rs hG (Ch.a1 rfl (OpS.box 2 rfl) rfl rfl (Ch.asg rfl rfl (Ch.nil (WP.rsD (by kernel_rfl) hG (Ch.mv rfl rfl (Ch.mv rfl rfl ?_))))))
 refine Ch.cH (hb1) [0,1] 3 gdN (.cons rfl (.cons rfl .nil)) (.c (.rfl _) (.c (.rfl _) .n)) rfl (by refine ⟨?_, ?_, ?_, ?_⟩ <;> first | ((conv => lhs; simp only [nrmA, Nat.reduceAdd, renL_tbs, renL_tb1]); all_goals rfl) | rfl) (by exact ⟨rfl, rfl, trivial⟩) (by exact trivial) rfl ?_
 refine Ch.mv rfl rfl (Ch.p1 rfl (OpS.fieldAddr rfl rfl rfl rfl) rfl (Ch.q1 rfl (OpS.loadP rfl rfl rfl) rfl rfl ?_))
 refine Ch.cH (hk1) [0,1] 3 gdN (.cons rfl (.cons rfl .nil)) (.c (.rfl _) (.c (.rfl _) .n)) rfl (by refine ⟨?_, ?_, ?_, ?_⟩ <;> first | ((conv => lhs; simp only [nrmA, Nat.reduceAdd, renL_tbs, renL_tb1]); all_goals rfl) | rfl) (by exact ⟨rfl, rfl, trivial⟩) (by exact trivial) rfl ?_
 refine Ch.asg rfl rfl (Ch.asg rfl rfl (Ch.nilD ?_ (by kernel_rfl)))
 refine WP.seq ?_
 have hc : (b = 0 ∧ R = false) ∨ (b ≠ 0 ∧ (vwT l b).toNat ≤ vo.toNat ∧ R = false) ∨ (b ≠ 0 ∧ ¬ (vwT l b).toNat ≤ vo.toNat) := by
  by_cases h0 : b = 0
  · exact .inl ⟨h0, by rw [hR, h0]; exact may_0⟩
  by_cases h1 : (vwT l b).toNat ≤ vo.toNat
  · exact .inr (.inl ⟨h0, h1, hR.trans (may_f h1)⟩)
  exact .inr (.inr ⟨h0, h1⟩)
 rcases hc with hq | hq | hq
 ·
  have hs := hq
  refine WP.rsD (by kernel_rfl) hG (Ch.mv rfl rfl (Ch.p2 rfl rfl (OpS.eqNil (.s _) rfl) rfl (Ch.mv rfl rfl (Ch.gm rfl rfl rfl rfl (Ch.g2 rfl rfl rfl rfl (OpS.eqNil (.s _) rfl) rfl (Ch.p2 rfl rfl (OpS.pickF) rfl (Ch.mv rfl rfl (Ch.gm rfl rfl rfl rfl (Ch.g2 rfl rfl rfl rfl (OpS.int (op := .eql) (v' := .bool true) rfl (by exact congrArg Value.bool (decide_eq_true (by omega)))) rfl ?_)))))))))
  refine Ch.p2 rfl rfl (OpS.pickF) rfl (Ch.mv rfl rfl (Ch.skU (gdF rfl rfl rfl) rfl (Ch.skU (gdF rfl rfl rfl) rfl (Ch.skU (gdF rfl rfl rfl) rfl (Ch.skU (gdF rfl rfl rfl) rfl (Ch.skU (gdF rfl rfl rfl) rfl (Ch.skU (gdF rfl rfl rfl) rfl (Ch.skU (gdF rfl rfl rfl) rfl (Ch.p2 rfl rfl (OpS.pickT) rfl ?_)))))))))
  refine Ch.nilD ?_ (by kernel_rfl)
  refine WP.cond_true rfl (WP.rs hG (Ch.asg rfl rfl (Ch.nil (WP.ret ?_))))
  rw [hs.2]
  refine (Ret.of (rs := [6]) (vs := [.v (.bool false)]) (H' := trH l) (res := .v (.bool false)) [0, 1] ?_ ?_ rfl ?_ (by simp only [List.length_cons, List.length_nil]; decide) ?_).1
  · exact na_of hnA rfl
  · (repeat (first | exact trivial | (refine ⟨⟨(by trivial), _, rfl, .rfl _⟩, ?_⟩)))
  · (repeat (first | exact trivial | refine HFromL.skip ?_ | (refine ⟨⟨(by first | trivial | (simp; first | done | fail)), (by first | rfl | (simp [renL_tbs, renL_tb1]; first | done | fail))⟩, ?_⟩)))
  rfl
 ·
  have hs := hq
  refine WP.rsD (by kernel_rfl) hG (Ch.mv rfl rfl (Ch.p2 rfl rfl (OpS.eqNil (.s _) rfl) rfl (Ch.mv rfl rfl (Ch.gm rfl rfl rfl rfl (Ch.g2 rfl rfl rfl rfl (OpS.eqNil (.s _) rfl) rfl (Ch.p2 rfl rfl (OpS.pickF) rfl (Ch.mv rfl rfl (Ch.gm rfl rfl rfl rfl (Ch.g2 rfl rfl rfl rfl (OpS.int (op := .eql) (v' := .bool false) rfl (by exact congrArg Value.bool (decide_eq_false (by omega)))) rfl ?_)))))))))
  refine Ch.p2 rfl rfl (OpS.pickF) rfl (Ch.mv rfl rfl (Ch.gm rfl rfl rfl rfl (Ch.g1 rfl rfl rfl (OpS.nilCheckS) rfl (Ch.g1 rfl rfl rfl (OpS.fieldAddrS rfl rfl rfl rfl rfl) rfl (Ch.g1 rfl rfl rfl (OpS.loadS rfl rfl) rfl (Ch.g1 rfl rfl rfl (OpS.fieldAddr rfl rfl rfl rfl) rfl (Ch.pu (by exact gdT rfl rfl) (by exact ⟨rfl, trivial⟩) (OpS.loadP rfl rfl rfl) (by exact ⟨rfl, trivial⟩) rfl ?_)))))))
  refine Ch.g2 rfl rfl rfl rfl (OpS.leqT (by omega)) rfl ?_
  refine Ch.p2 rfl rfl (OpS.pickF) rfl (Ch.nilD ?_ (by kernel_rfl))
  refine WP.cond_true rfl (WP.rs hG (Ch.asg rfl rfl (Ch.nil (WP.ret ?_))))
  rw [hs.2.2]
  refine (Ret.of (rs := [6]) (vs := [.v (.bool false)]) (H' := trH l) (res := .v (.bool false)) [0, 1] ?_ ?_ rfl ?_ (by simp only [List.length_cons, List.length_nil]; decide) ?_).1
  · exact na_of hnA rfl
  · (repeat (first | exact trivial | (refine ⟨⟨(by trivial), _, rfl, .rfl _⟩, ?_⟩)))
  · (repeat (first | exact trivial | refine HFromL.skip ?_ | (refine ⟨⟨(by first | trivial | (simp; first | done | fail)), (by first | rfl | (simp [renL_tbs, renL_tb1]; first | done | fail))⟩, ?_⟩)))
  rfl
 have hs := hq
 refine WP.rsD (by kernel_rfl) hG (Ch.mv rfl rfl (Ch.p2 rfl rfl (OpS.eqNil (.s _) rfl) rfl (Ch.mv rfl rfl (Ch.gm rfl rfl rfl rfl (Ch.g2 rfl rfl rfl rfl (OpS.eqNil (.s _) rfl) rfl (Ch.p2 rfl rfl (OpS.pickF) rfl (Ch.mv rfl rfl (Ch.gm rfl rfl rfl rfl (Ch.g2 rfl rfl rfl rfl (OpS.int (op := .eql) (v' := .bool false) rfl (by exact congrArg Value.bool (decide_eq_false (by omega)))) rfl ?_)))))))))
 refine Ch.p2 rfl rfl (OpS.pickF) rfl (Ch.mv rfl rfl (Ch.gm rfl rfl rfl rfl (Ch.g1 rfl rfl rfl (OpS.nilCheckS) rfl (Ch.g1 rfl rfl rfl (OpS.fieldAddrS rfl rfl rfl rfl rfl) rfl (Ch.g1 rfl rfl rfl (OpS.loadS rfl rfl) rfl (Ch.g1 rfl rfl rfl (OpS.fieldAddr rfl rfl rfl rfl) rfl (Ch.pu (by exact gdT rfl rfl) (by exact ⟨rfl, trivial⟩) (OpS.loadP rfl rfl rfl) (by exact ⟨rfl, trivial⟩) rfl ?_)))))))
 refine Ch.g2 rfl rfl rfl rfl (OpS.leqF (by omega)) rfl ?_
 refine Ch.p2 rfl rfl (OpS.pickF) rfl (Ch.nilD ?_ (by kernel_rfl))
 refine WP.cond_false rfl (WP.skip ?_)
 by_cases hq : (vwT l lk).toNat < (vwT l (prT l b)).toNat
 ·
  have hs := hq
  refine WP.rsD (by kernel_rfl) hG (Ch.mv rfl rfl (Ch.mv rfl rfl (Ch.p1 rfl (OpS.nilCheckS) rfl (Ch.p1 rfl (OpS.loadSA rfl rfl rfl) rfl (Ch.callP (fp) gdN (.cons rfl .nil) (.c (.rfl _) .n) (by rfl) rfl ?_)))))
  refine Ch.cH (fv) [0,1] 3 gdN (.cons rfl (.cons rfl .nil)) (.c (.rfl _) (.c (.rfl _) .n)) rfl (by refine ⟨?_, ?_, ?_, ?_⟩ <;> first | ((conv => lhs; simp only [nrmA, Nat.reduceAdd, renL_tbs, renL_tb1]); all_goals rfl) | rfl) (by exact ⟨rfl, rfl, trivial⟩) (by exact trivial) rfl ?_
  refine Ch.mv rfl rfl (Ch.p1 rfl (OpS.nilCheckS) rfl (Ch.p1 rfl (OpS.fieldAddrS rfl rfl rfl rfl rfl) rfl (Ch.p1 rfl (OpS.loadS rfl rfl) rfl (Ch.p2 rfl rfl (OpS.gtrT (by omega)) rfl ?_))))
  refine Ch.mv rfl rfl (Ch.skU (gdF rfl rfl rfl) rfl (Ch.skU (gdF rfl rfl rfl) rfl (Ch.skU (gdF rfl rfl rfl) rfl (Ch.skU (gdF rfl rfl rfl) rfl (Ch.skU (gdF rfl rfl rfl) rfl (Ch.p2 rfl rfl (OpS.pickT) rfl (Ch.asg rfl rfl (Ch.nilD ?_ (by kernel_rfl)))))))))
  refine WP.ret ?_
  rw [hR, may_t (by omega) (by omega) (by omega)]
  refine (Ret.of (rs := [6]) (vs := [.v (.bool true)]) (H' := trH l) (res := .v (.bool true)) [0, 1] ?_ ?_ rfl ?_ (by simp only [List.length_cons, List.length_nil]; decide) ?_).1
  · exact na_of hnA rfl
  · (repeat (first | exact trivial | (refine ⟨⟨(by trivial), _, rfl, .rfl _⟩, ?_⟩)))
  · (repeat (first | exact trivial | refine HFromL.skip ?_ | (refine ⟨⟨(by first | trivial | (simp; first | done | fail)), (by first | rfl | (simp [renL_tbs, renL_tb1]; first | done | fail))⟩, ?_⟩)))
  rfl
 have hs := hq
 refine WP.rsD (by kernel_rfl) hG (Ch.mv rfl rfl (Ch.mv rfl rfl (Ch.p1 rfl (OpS.nilCheckS) rfl (Ch.p1 rfl (OpS.loadSA rfl rfl rfl) rfl (Ch.callP (fp) gdN (.cons rfl .nil) (.c (.rfl _) .n) (by rfl) rfl ?_)))))
 refine Ch.cH (fv) [0,1] 3 gdN (.cons rfl (.cons rfl .nil)) (.c (.rfl _) (.c (.rfl _) .n)) rfl (by refine ⟨?_, ?_, ?_, ?_⟩ <;> first | ((conv => lhs; simp only [nrmA, Nat.reduceAdd, renL_tbs, renL_tb1]); all_goals rfl) | rfl) (by exact ⟨rfl, rfl, trivial⟩) (by exact trivial) rfl ?_
 refine Ch.mv rfl rfl (Ch.p1 rfl (OpS.nilCheckS) rfl (Ch.p1 rfl (OpS.fieldAddrS rfl rfl rfl rfl rfl) rfl (Ch.p1 rfl (OpS.loadS rfl rfl) rfl (Ch.p2 rfl rfl (OpS.gtrF (by omega)) rfl ?_))))
 refine Ch.mv rfl rfl (Ch.gm rfl rfl rfl rfl (Ch.g1 rfl rfl rfl (OpS.fieldAddr rfl rfl rfl rfl) rfl (Ch.pu (by exact gdT rfl rfl) (by exact ⟨rfl, trivial⟩) (OpS.loadP rfl rfl rfl) (by exact ⟨rfl, trivial⟩) rfl ?_)))
 refine Ch.gm rfl rfl rfl rfl ?_
 refine Ch.cH (fe) [0,1] 3 (gdT rfl rfl) (.cons rfl (.cons rfl (.cons rfl .nil))) (.c (.rfl _) (.c (.rfl _) (.c (.rfl _) .n))) rfl (by refine ⟨?_, ?_, ?_, ?_⟩ <;> first | ((conv => lhs; simp only [nrmA, Nat.reduceAdd, renL_tbs, renL_tb1]); all_goals rfl) | rfl) (by exact ⟨rfl, rfl, trivial⟩) (by exact trivial) rfl ?_
 refine Ch.p2 rfl rfl (OpS.pickF) rfl (Ch.asg rfl rfl (Ch.nilD ?_ (by kernel_rfl)))
 refine WP.ret ?_
 rw [hR, may_e (by omega) (by omega) (by omega)]
 refine (Ret.of (rs := [6]) (vs := [.v (.bool (extT l lk b))]) (H' := trH l) (res := .v (.bool (extT l lk b))) [0, 1] ?_ ?_ rfl ?_ (by simp only [List.length_cons, List.length_nil]; decide) ?_).1
 · exact na_of hnA rfl
 · (repeat (first | exact trivial | (refine ⟨⟨(by trivial), _, rfl, .rfl _⟩, ?_⟩)))
 · (repeat (first | exact trivial | refine HFromL.skip ?_ | (refine ⟨⟨(by first | trivial | (simp; first | done | fail)), (by first | rfl | (simp [renL_tbs, renL_tb1]; first | done | fail))⟩, ?_⟩)))
 rfl
theorem tAfter_fc (l : List TB) (hw : WfT l) (vo : UInt64) (lk b : Nat) (hk : lk < l.length) (hb : b < l.length) (hv : ¬ (vwT l b).toNat ≤ vo.toNat) : FC Tryz.prog G 136 [.ptr 0 0, .agg [.v (.int .u64 (U64 vo)), .v (.int .i64 (lk : Int))], .v (.int .i64 (b : Int))] (trH l)
  (.agg [.v (.int .u64 (U64 (vwT l b))), .v (.int .i64 ((if (vwT l lk).toNat < (vwT l (gpT l b)).toNat then gpT l b else lk : Nat) : Int))]) (trH l) := by
 have hl := hw.le
 have hb1 := tAt_fc (G := G) l b hb hl
 have hk1 := tAt_fc (G := G) l lk hk hl
 have hp := hw.pr_lt hb
 have hp2 := hw.pr_lt hp.1
 have fp := bParent_fc (G := G) (tb l b) (show prT l b ≤ 256 by omega)
 rw [show (tb l b).2.2 = prT l b from rfl] at fp
 have hat := tAt_fc (G := G) l (prT l b) hp.1 hl
 have fp2 := bParent_fc (G := G) (tb l (prT l b)) (show prT l (prT l b) ≤ 256 by omega)
 rw [show (tb l (prT l b)).2.2 = gpT l b from rfl] at fp2
 have fv := tView_fc (G := G) l (gpT l b) hp2.1 hl
 have e1 : U64 (tb l b).1 = ((vwT l b).toNat : Int) := rfl
 have e2 : U64 vo = (vo.toNat : Int) := rfl
 have e3 : U64 (tb l lk).1 = ((vwT l lk).toNat : Int) := rfl
 have e4 : U64 (vwT l (gpT l b)) = ((vwT l (gpT l b)).toNat : Int) := rfl
 refine FC.of_wpc [(6, some 89)] Tryz.func136 rfl rfl rfl rfl (by exact ⟨_, _, rfl, rfl, rfl, rfl⟩) ⟨rfl, ⟨trivial, trivial, trivial⟩, trivial, trivial⟩ (tr_bel _ rfl l) (Nat.le_of_ble_eq_true rfl) ?_
 intro A hG hnA hAB
 unfold start
 refine WP.rs hG (Ch.a1 rfl (OpS.box 2 rfl) rfl rfl (Ch.a0 (OpS.alloc 3 rfl rfl rfl) rfl rfl (Ch.nil (WP.rs hG (Ch.mv rfl rfl (Ch.mv rfl rfl ?_))))))
 refine Ch.cH (hb1) [0,1] 4 gdN (.cons rfl (.cons rfl .nil)) (.c (.rfl _) (.c (.rfl _) .n)) rfl (by refine ⟨?_, ?_, ?_, ?_⟩ <;> first | ((conv => lhs; simp only [nrmA, Nat.reduceAdd, renL_tbs, renL_tb1]); all_goals rfl) | rfl) (by exact ⟨rfl, rfl, trivial⟩) (by exact trivial) rfl ?_
 refine Ch.asg rfl rfl (Ch.nil (WP.seq (WP.rs hG (Ch.mv rfl rfl (Ch.p2 rfl rfl (OpS.eqNil (.s _) rfl) rfl (Ch.nil (WP.cond_false rfl (WP.skip (WP.rsD (by kernel_rfl) hG ?_)))))))))
 refine Ch.p1 rfl (OpS.fieldAddr rfl rfl rfl rfl) rfl (Ch.q1 rfl (OpS.loadP rfl rfl rfl) rfl rfl (Ch.mv rfl rfl (Ch.p1 rfl (OpS.nilCheckS) rfl (Ch.p1 rfl (OpS.fieldAddrS rfl rfl rfl rfl rfl) rfl (Ch.p1 rfl (OpS.loadS rfl rfl) rfl (Ch.p2 rfl rfl (OpS.maxI (c := U64 (vwT l b)) (by exact if_pos (by omega))) rfl ?_))))))
 refine Ch.p1 rfl (OpS.fieldAddr rfl rfl rfl rfl) rfl (Ch.ws rfl rfl (OpS.storeP (cs := [.v (.int .u64 (U64 vo)), .v (.int .i64 (lk : Int))]) rfl rfl rfl (by simp)) rfl ?_)
 refine Ch.nilD ?_ (by kernel_rfl)
 refine WP.rs hG (Ch.mv rfl rfl (Ch.mv rfl rfl (Ch.p1 rfl (OpS.nilCheckS) rfl (Ch.p1 rfl (OpS.loadSA rfl rfl rfl) rfl (Ch.callP (fp) gdN (.cons rfl .nil) (.c (.rfl _) .n) (by rfl) rfl ?_)))))
 refine Ch.cH (hat) [0,1] 4 gdN (.cons rfl (.cons rfl .nil)) (.c (.rfl _) (.c (.rfl _) .n)) rfl (by refine ⟨?_, ?_, ?_, ?_⟩ <;> first | ((conv => lhs; simp only [nrmA, Nat.reduceAdd, renL_tbs, renL_tb1]); all_goals rfl) | rfl) (by exact ⟨rfl, rfl, trivial⟩) (by exact trivial) rfl ?_
 refine Ch.p1 rfl (OpS.nilCheckS) rfl (Ch.p1 rfl (OpS.loadSA rfl rfl rfl) rfl (Ch.callP (fp2) gdN (.cons rfl .nil) (.c (.rfl _) .n) (by rfl) rfl ?_))
 refine Ch.asg rfl rfl (Ch.nil (WP.seq (WP.rs hG (Ch.mv rfl rfl (Ch.p1 rfl (OpS.fieldAddr rfl rfl rfl rfl) rfl (Ch.q1 rfl (OpS.loadP rfl rfl rfl) rfl rfl ?_))))))
 refine Ch.cH (hk1) [0,1] 4 gdN (.cons rfl (.cons rfl .nil)) (.c (.rfl _) (.c (.rfl _) .n)) rfl (by refine ⟨?_, ?_, ?_, ?_⟩ <;> first | ((conv => lhs; simp only [nrmA, Nat.reduceAdd, renL_tbs, renL_tb1]); all_goals rfl) | rfl) (by exact ⟨rfl, rfl, trivial⟩) (by exact trivial) rfl ?_
 refine Ch.asg rfl rfl (Ch.nil ?_)
 by_cases hq : (vwT l lk).toNat < (vwT l (gpT l b)).toNat
 ·
  have hs := hq
  refine WP.rsD (by kernel_rfl) hG (Ch.mv rfl rfl (Ch.p2 rfl rfl (OpS.eqNil (.s _) rfl) rfl (Ch.mv rfl rfl (Ch.gm rfl rfl rfl rfl (Ch.gm rfl rfl rfl rfl ?_)))))
  refine Ch.cH (fv) [0,1] 4 (gdT rfl rfl) (.cons rfl (.cons rfl .nil)) (.c (.rfl _) (.c (.rfl _) .n)) rfl (by refine ⟨?_, ?_, ?_, ?_⟩ <;> first | ((conv => lhs; simp only [nrmA, Nat.reduceAdd, renL_tbs, renL_tb1]); all_goals rfl) | rfl) (by exact ⟨rfl, rfl, trivial⟩) (by exact trivial) rfl ?_
  refine Ch.gm rfl rfl rfl rfl (Ch.g1 rfl rfl rfl (OpS.nilCheckS) rfl (Ch.g1 rfl rfl rfl (OpS.fieldAddrS rfl rfl rfl rfl rfl) rfl (Ch.g1 rfl rfl rfl (OpS.loadS rfl rfl) rfl (Ch.g2 rfl rfl rfl rfl (OpS.gtrT (by omega)) rfl ?_))))
  refine Ch.p2 rfl rfl (OpS.pickF) rfl (Ch.nilD ?_ (by kernel_rfl))
  refine WP.cond_true rfl (WP.rg hG (Ch.mv rfl rfl (Ch.p1 rfl (OpS.fieldAddr rfl rfl rfl rfl) rfl (Ch.ws rfl rfl (OpS.storeP (cs := [.v (.int .u64 (U64 (vwT l b))), .v (.int .i64 (lk : Int))]) rfl rfl rfl (by simp)) rfl ?_))))
  refine Ch.nil (WP.rs hG (Ch.q1 rfl (OpS.loadPA (off := 0) (sz := 2) (cs := [.v (.int .u64 (U64 (vwT l b))), .v (.int .i64 (gpT l b : Int))]) rfl rfl rfl rfl (by exact Nat.le_refl 2)) rfl rfl ?_))
  refine Ch.ws rfl rfl (OpS.storePA (cs := [.v (.int .u64 0), .v (.int .i64 0)]) (c := .agg [.v (.int .u64 (U64 (vwT l b))), .v (.int .i64 (gpT l b : Int))]) rfl rfl rfl (by exact Nat.le_refl 2)) rfl ?_
  refine Ch.nil (WP.from (SEnt.frz (t := 6) rfl rfl) (WP.ret ?_))
  rw [if_pos hs]
  refine (Ret.of (rs := [6]) (vs := [.sptr [.v (.int .u64 (U64 (vwT l b))), .v (.int .i64 (gpT l b : Int))]]) (H' := trH l) (res := .sptr [.v (.int .u64 (U64 (vwT l b))), .v (.int .i64 (gpT l b : Int))]) [0, 1] ?_ ?_ rfl ?_ (by simp only [List.length_cons, List.length_nil]; decide) ?_).1
  · exact na_of hnA rfl
  · (repeat (first | exact trivial | (refine ⟨⟨(by trivial), _, rfl, .rfl _⟩, ?_⟩)))
  · (repeat (first | exact trivial | refine HFromL.skip ?_ | (refine ⟨⟨(by first | trivial | (simp; first | done | fail)), (by first | rfl | (simp [renL_tbs, renL_tb1]; first | done | fail))⟩, ?_⟩)))
  rfl
 have hs := hq
 refine WP.rsD (by kernel_rfl) hG (Ch.mv rfl rfl (Ch.p2 rfl rfl (OpS.eqNil (.s _) rfl) rfl (Ch.mv rfl rfl (Ch.gm rfl rfl rfl rfl (Ch.gm rfl rfl rfl rfl ?_)))))
 refine Ch.cH (fv) [0,1] 4 (gdT rfl rfl) (.cons rfl (.cons rfl .nil)) (.c (.rfl _) (.c (.rfl _) .n)) rfl (by refine ⟨?_, ?_, ?_, ?_⟩ <;> first | ((conv => lhs; simp only [nrmA, Nat.reduceAdd, renL_tbs, renL_tb1]); all_goals rfl) | rfl) (by exact ⟨rfl, rfl, trivial⟩) (by exact trivial) rfl ?_
 refine Ch.gm rfl rfl rfl rfl (Ch.g1 rfl rfl rfl (OpS.nilCheckS) rfl (Ch.g1 rfl rfl rfl (OpS.fieldAddrS rfl rfl rfl rfl rfl) rfl (Ch.g1 rfl rfl rfl (OpS.loadS rfl rfl) rfl (Ch.g2 rfl rfl rfl rfl (OpS.gtrF (by omega)) rfl ?_))))
 refine Ch.p2 rfl rfl (OpS.pickF) rfl (Ch.nilD ?_ (by kernel_rfl))
 refine WP.cond_false rfl (WP.skip (WP.rs hG (Ch.q1 rfl (OpS.loadPA (off := 0) (sz := 2) (cs := [.v (.int .u64 (U64 (vwT l b))), .v (.int .i64 (lk : Int))]) rfl rfl rfl rfl (by exact Nat.le_refl 2)) rfl rfl ?_)))
 refine Ch.ws rfl rfl (OpS.storePA (cs := [.v (.int .u64 0), .v (.int .i64 0)]) (c := .agg [.v (.int .u64 (U64 (vwT l b))), .v (.int .i64 (lk : Int))]) rfl rfl rfl (by exact Nat.le_refl 2)) rfl ?_
 refine Ch.nil (WP.from (SEnt.frz (t := 6) rfl rfl) (WP.ret ?_))
 rw [if_neg hs]
 refine (Ret.of (rs := [6]) (vs := [.sptr [.v (.int .u64 (U64 (vwT l b))), .v (.int .i64 (lk : Int))]]) (H' := trH l) (res := .sptr [.v (.int .u64 (U64 (vwT l b))), .v (.int .i64 (lk : Int))]) [0, 1] ?_ ?_ rfl ?_ (by simp only [List.length_cons, List.length_nil]; decide) ?_).1
 · exact na_of hnA rfl
 · (repeat (first | exact trivial | (refine ⟨⟨(by trivial), _, rfl, .rfl _⟩, ?_⟩)))
 · (repeat (first | exact trivial | refine HFromL.skip ?_ | (refine ⟨⟨(by first | trivial | (simp; first | done | fail)), (by first | rfl | (simp [renL_tbs, renL_tb1]; first | done | fail))⟩, ?_⟩)))
 rfl
theorem tCom_fc (l : List TB) (hw : WfT l) (b : Nat) (hb : b < l.length) : FC Tryz.prog G 96 [.ptr 0 0, .v (.int .i64 (b : Int))] (trH l) (.v (.int .i64 (comT l b))) (trH l) := by
 have hl := hw.le
 have hb1 := tAt_fc (G := G) l b hb hl
 obtain ⟨R, hR⟩ : ∃ R, R = comT l b := ⟨_, rfl⟩
 rw [← hR]
 refine FC.of_wp [4] Tryz.func96 rfl rfl rfl rfl ⟨rfl, trivial, trivial⟩ (tr_bel _ rfl l) (Nat.le_of_ble_eq_true rfl) ?_
 intro A hG hnA hAB
 unfold start
 refine WP.rs hG (Ch.asg rfl rfl (Ch.nil (WP.seq ?_)))
 by_cases hq : b = 0
 ·
  have hs := hq
  refine WP.rs hG (Ch.mv rfl rfl (Ch.mv rfl rfl ?_))
  refine Ch.cH (hb1) [0,1] 2 gdN (.cons rfl (.cons rfl .nil)) (.c (.rfl _) (.c (.rfl _) .n)) rfl (by refine ⟨?_, ?_, ?_, ?_⟩ <;> first | ((conv => lhs; simp only [nrmA, Nat.reduceAdd, renL_tbs, renL_tb1]); all_goals rfl) | rfl) (by exact ⟨rfl, rfl, trivial⟩) (by exact trivial) rfl ?_
  refine Ch.p2 rfl rfl (OpS.eqNil (.s _) rfl) rfl (Ch.mv rfl rfl (Ch.gm rfl rfl rfl rfl (Ch.g2 rfl rfl rfl rfl (OpS.int (op := .eql) (v' := .bool true) rfl (by exact congrArg Value.bool (decide_eq_true (by omega)))) rfl ?_)))
  refine Ch.p2 rfl rfl (OpS.pickF) rfl (Ch.nil (WP.cond_true rfl (WP.rs hG (Ch.asg rfl rfl (Ch.nil (WP.ret ?_))))))
  have e : R = -1 := by rw [hR]; exact if_pos hs
  rw [e]
  refine (Ret.of (rs := [4]) (vs := [.v (.int .i64 (-1))]) (H' := trH l) (res := .v (.int .i64 (-1))) [0, 1] ?_ ?_ rfl ?_ (by simp only [List.length_cons, List.length_nil]; decide) ?_).1
  · exact na_of hnA rfl
  · (repeat (first | exact trivial | (refine ⟨⟨(by trivial), _, rfl, .rfl _⟩, ?_⟩)))
  · (repeat (first | exact trivial | refine HFromL.skip ?_ | (refine ⟨⟨(by first | trivial | (simp; first | done | fail)), (by first | rfl | (simp [renL_tbs, renL_tb1]; first | done | fail))⟩, ?_⟩)))
  rfl
 have hs := hq
 refine WP.rs hG (Ch.mv rfl rfl (Ch.mv rfl rfl ?_))
 refine Ch.cH (hb1) [0,1] 2 gdN (.cons rfl (.cons rfl .nil)) (.c (.rfl _) (.c (.rfl _) .n)) rfl (by refine ⟨?_, ?_, ?_, ?_⟩ <;> first | ((conv => lhs; simp only [nrmA, Nat.reduceAdd, renL_tbs, renL_tb1]); all_goals rfl) | rfl) (by exact ⟨rfl, rfl, trivial⟩) (by exact trivial) rfl ?_
 refine Ch.p2 rfl rfl (OpS.eqNil (.s _) rfl) rfl (Ch.mv rfl rfl (Ch.gm rfl rfl rfl rfl (Ch.g2 rfl rfl rfl rfl (OpS.int (op := .eql) (v' := .bool false) rfl (by exact congrArg Value.bool (decide_eq_false (by omega)))) rfl ?_)))
 refine Ch.p2 rfl rfl (OpS.pickF) rfl (Ch.nil (WP.cond_false rfl (WP.skip (WP.seq (WP.rs hG (Ch.mv rfl rfl (Ch.nil (WP.block ?_))))))))
 refine WP.loop (fun k σ => ∃ m c : Nat, m + k = 2 ∧ c < l.length ∧ comK l k c = R ∧ σ = ⟨38, ls [(0, .ptr 0 0), (1, .v (.int .i64 (c : Int))), (15, .v (.int .i64 (m : Int)))], lh [(0, .cells 140 (trC l)), (1, .tip 137 2 l.length)], blt 2⟩) (2) (Ent.of [0, 1] ?_ ?_ ?_ ?_).se ⟨0, b, rfl, hb, by rw [hR]; exact (if_neg hs).symm, rfl⟩ ?_
 · exact na_of hnA rfl
 · (repeat (first | exact trivial | (refine ⟨⟨(by trivial), _, rfl, .rfl _⟩, ?_⟩)))
 · (repeat (first | exact trivial | (refine ⟨⟨rfl, (by first | trivial | (simp; first | done | fail)), (by first | rfl | (simp [renL_tbs, renL_tb1]; first | done | fail))⟩, ?_⟩)))
 · exact nd_of rfl
 rintro k σ ⟨m, c, hm', hc, hk, rfl⟩
 have hp := hw.pr_lt hc
 have hp2 := hw.pr_lt hp.1
 have fp := tParent_fc (G := G) l c hc hl (show prT l c ≤ 256 by omega)
 have fq := tParent_fc (G := G) l (prT l c) hp.1 hl (show prT l (prT l c) ≤ 256 by omega)
 have fv := tView_fc (G := G) l (prT l c) hp.1 hl
 have fw := tView_fc (G := G) l (prT l (prT l c)) hp2.1 hl
 refine WP.rs hG (Ch.p2 rfl rfl (OpS.int (op := .lss) (v' := .bool (decide (0 < k))) rfl (by exact congrArg Value.bool (decide_eq_decide.2 (by omega)))) rfl ?_)
 refine Ch.nil (WP.seq ?_)
 refine WP.cond rfl ?_ ?_
 ·
  intro ht
  have ht' := of_decide_eq_true ht
  obtain ⟨k, rfl⟩ : ∃ j, k = j + 1 := ⟨k - 1, by omega⟩
  refine WP.skip (WP.seq (WP.block (WP.rs hG (Ch.mv rfl rfl (Ch.mv rfl rfl ?_)))))
  refine Ch.cH (fp) [0,1] 2 gdN (.cons rfl (.cons rfl .nil)) (.c (.rfl _) (.c (.rfl _) .n)) rfl (by refine ⟨?_, ?_, ?_, ?_⟩ <;> first | ((conv => lhs; simp only [nrmA, Nat.reduceAdd, renL_tbs, renL_tb1]); all_goals rfl) | rfl) (by exact ⟨rfl, rfl, trivial⟩) (by exact trivial) rfl ?_
  refine Ch.asg rfl rfl (Ch.nil (WP.seq ?_))
  by_cases hq : prT l c = 0
  ·
   have hs := hq
   refine WP.rs hG (Ch.mv rfl rfl (Ch.p2 rfl rfl (OpS.int (op := .eql) (v' := .bool true) rfl (by exact congrArg Value.bool (decide_eq_true (by omega)))) rfl ?_))
   refine Ch.nil (WP.cond_true rfl (WP.rs hG (Ch.asg rfl rfl (Ch.nil (WP.ret ?_)))))
   have e : R = -1 := by rw [← hk]; exact comK_f (okT_f (fun h => h.1 hs))
   rw [e]
   refine (Ret.of (rs := [4]) (vs := [.v (.int .i64 (-1))]) (H' := trH l) (res := .v (.int .i64 (-1))) [0, 1] ?_ ?_ rfl ?_ (by simp only [List.length_cons, List.length_nil]; decide) ?_).1
   · exact na_of hnA rfl
   · (repeat (first | exact trivial | (refine ⟨⟨(by trivial), _, rfl, .rfl _⟩, ?_⟩)))
   · (repeat (first | exact trivial | refine HFromL.skip ?_ | (refine ⟨⟨(by first | trivial | (simp; first | done | fail)), (by first | rfl | (simp [renL_tbs, renL_tb1]; first | done | fail))⟩, ?_⟩)))
   rfl
  have hs := hq
  refine WP.rs hG (Ch.mv rfl rfl (Ch.p2 rfl rfl (OpS.int (op := .eql) (v' := .bool false) rfl (by exact congrArg Value.bool (decide_eq_false (by omega)))) rfl ?_))
  refine Ch.nil (WP.cond_false rfl (WP.skip (WP.rs hG (Ch.mv rfl rfl (Ch.mv rfl rfl ?_)))))
  refine Ch.cH (fq) [0,1] 2 gdN (.cons rfl (.cons rfl .nil)) (.c (.rfl _) (.c (.rfl _) .n)) rfl (by refine ⟨?_, ?_, ?_, ?_⟩ <;> first | ((conv => lhs; simp only [nrmA, Nat.reduceAdd, renL_tbs, renL_tb1]); all_goals rfl) | rfl) (by exact ⟨rfl, rfl, trivial⟩) (by exact trivial) rfl ?_
  refine Ch.asg rfl rfl (Ch.nil (WP.seq ?_))
  by_cases hq : vwT l (prT l c) = vwT l (prT l (prT l c)) + 1
  ·
   have hs := hq
   refine WP.rs hG (Ch.mv rfl rfl (Ch.mv rfl rfl ?_))
   refine Ch.cH (fv) [0,1] 2 gdN (.cons rfl (.cons rfl .nil)) (.c (.rfl _) (.c (.rfl _) .n)) rfl (by refine ⟨?_, ?_, ?_, ?_⟩ <;> first | ((conv => lhs; simp only [nrmA, Nat.reduceAdd, renL_tbs, renL_tb1]); all_goals rfl) | rfl) (by exact ⟨rfl, rfl, trivial⟩) (by exact trivial) rfl ?_
   refine Ch.mv rfl rfl (Ch.mv rfl rfl ?_)
   refine Ch.cH (fw) [0,1] 2 gdN (.cons rfl (.cons rfl .nil)) (.c (.rfl _) (.c (.rfl _) .n)) rfl (by refine ⟨?_, ?_, ?_, ?_⟩ <;> first | ((conv => lhs; simp only [nrmA, Nat.reduceAdd, renL_tbs, renL_tb1]); all_goals rfl) | rfl) (by exact ⟨rfl, rfl, trivial⟩) (by exact trivial) rfl ?_
   refine Ch.p2 rfl rfl (OpS.int (op := .add) (v' := .int .u64 (U64 (vwT l (prT l (prT l c)) + 1))) rfl (u64_succ _)) rfl (Ch.p2 rfl rfl (OpS.int (op := .neq) (v' := .bool false) rfl (by exact congrArg Value.bool (by rw [hs]; simp))) rfl ?_)
   refine Ch.nil (WP.cond_false rfl (WP.skip (WP.rg hG (Ch.mv rfl rfl (Ch.asg rfl rfl (Ch.nil (WP.rg hG (Ch.p2 rfl rfl (OpS.inc m (by omega) (by omega)) rfl ?_))))))))
   refine Ch.mv rfl rfl (Ch.nil ?_)
   refine ⟨k, _, by omega, (Ent.of [0, 1] ?_ ?_ ?_ ?_).se, m + 1, prT l c, by omega, hp.1, (by rw [← hk]; exact (comK_t (okT_t ‹¬ prT l c = 0› hs)).symm), rfl⟩
   · exact na_of hnA rfl
   · (repeat (first | exact trivial | (refine ⟨⟨(by trivial), _, rfl, .rfl _⟩, ?_⟩)))
   · (repeat (first | exact trivial | (refine ⟨⟨rfl, (by first | trivial | (simp; first | done | fail)), (by first | rfl | (simp [renL_tbs, renL_tb1]; first | done | fail))⟩, ?_⟩)))
   exact nd_of rfl
  have hs := hq
  refine WP.rs hG (Ch.mv rfl rfl (Ch.mv rfl rfl ?_))
  refine Ch.cH (fv) [0,1] 2 gdN (.cons rfl (.cons rfl .nil)) (.c (.rfl _) (.c (.rfl _) .n)) rfl (by refine ⟨?_, ?_, ?_, ?_⟩ <;> first | ((conv => lhs; simp only [nrmA, Nat.reduceAdd, renL_tbs, renL_tb1]); all_goals rfl) | rfl) (by exact ⟨rfl, rfl, trivial⟩) (by exact trivial) rfl ?_
  refine Ch.mv rfl rfl (Ch.mv rfl rfl ?_)
  refine Ch.cH (fw) [0,1] 2 gdN (.cons rfl (.cons rfl .nil)) (.c (.rfl _) (.c (.rfl _) .n)) rfl (by refine ⟨?_, ?_, ?_, ?_⟩ <;> first | ((conv => lhs; simp only [nrmA, Nat.reduceAdd, renL_tbs, renL_tb1]); all_goals rfl) | rfl) (by exact ⟨rfl, rfl, trivial⟩) (by exact trivial) rfl ?_
  refine Ch.p2 rfl rfl (OpS.int (op := .add) (v' := .int .u64 (U64 (vwT l (prT l (prT l c)) + 1))) rfl (u64_succ _)) rfl (Ch.p2 rfl rfl (OpS.neqT (U64_ne hs)) rfl (Ch.nil (WP.cond_true rfl (WP.rs hG (Ch.asg rfl rfl (Ch.nil (WP.ret ?_)))))))
  have e : R = -1 := by rw [← hk]; exact comK_f (okT_f (fun h => hs h.2))
  rw [e]
  refine (Ret.of (rs := [4]) (vs := [.v (.int .i64 (-1))]) (H' := trH l) (res := .v (.int .i64 (-1))) [0, 1] ?_ ?_ rfl ?_ (by simp only [List.length_cons, List.length_nil]; decide) ?_).1
  · exact na_of hnA rfl
  · (repeat (first | exact trivial | (refine ⟨⟨(by trivial), _, rfl, .rfl _⟩, ?_⟩)))
  · (repeat (first | exact trivial | refine HFromL.skip ?_ | (refine ⟨⟨(by first | trivial | (simp; first | done | fail)), (by first | rfl | (simp [renL_tbs, renL_tb1]; first | done | fail))⟩, ?_⟩)))
  rfl
 intro ht
 have ht' := of_decide_eq_false ht
 obtain rfl : k = 0 := by omega
 refine WP.exit (WP.rs hG (Ch.mv rfl rfl (Ch.mv rfl rfl ?_)))
 refine Ch.cH (fp) [0,1] 2 gdN (.cons rfl (.cons rfl .nil)) (.c (.rfl _) (.c (.rfl _) .n)) rfl (by refine ⟨?_, ?_, ?_, ?_⟩ <;> first | ((conv => lhs; simp only [nrmA, Nat.reduceAdd, renL_tbs, renL_tb1]); all_goals rfl) | rfl) (by exact ⟨rfl, rfl, trivial⟩) (by exact trivial) rfl ?_
 refine Ch.asg rfl rfl (Ch.nil (WP.ret ?_))
 rw [← hk]
 refine (Ret.of (rs := [4]) (vs := [.v (.int .i64 (prT l c : Int))]) (H' := trH l) (res := .v (.int .i64 (prT l c : Int))) [0, 1] ?_ ?_ rfl ?_ (by simp only [List.length_cons, List.length_nil]; decide) ?_).1
 · exact na_of hnA rfl
 · (repeat (first | exact trivial | (refine ⟨⟨(by trivial), _, rfl, .rfl _⟩, ?_⟩)))
 · (repeat (first | exact trivial | refine HFromL.skip ?_ | (refine ⟨⟨(by first | trivial | (simp; first | done | fail)), (by first | rfl | (simp [renL_tbs, renL_tb1]; first | done | fail))⟩, ?_⟩)))
 rfl
end
end Go.Proofs.YtpnbpcopdckgpaaGreatDoor.E
