import Derived.Test.YtcojfnjpcpochaaDoorZ043de0f3
import Derived.Test.YtcojfnjpcpochaaDoorZ23959e49
import Derived.Test.YtcojfnjpcpochaaDoorZa2b2fe3b
import Derived.Lib.ConvBytes
section
namespace Go.Proofs.YtcojfnjpcpochaaDoor.E
open Go Go.RowKit Go.Proofs.YtcojfnjpcpochaaDoor.V
attribute [local go_sem] B_size B_append B_extract mk_B B_toList take_drop_len List.length_drop List.length_take sgn32 sgn64 add32 sub32 mul32 add64 sub64 mul64 mul64_8 and32 or32 xor32 and64 or64 xor64 shl32_run shr32_run shl64_run shr64_run not32 not32' xor32_all w_u32_u8 w_u64_u8 w_i64_u8 w_u8_u32 w_u8_u64 w_u32_u64 w_u64_u32 w_u8_u8 w_u32_u32 w_u64_u64
attribute [local go_sem ↓] run_index_B' add32 sub32 mul32 add64 sub64 mul64 mul64_8 and32 or32 xor32 and64 or64 xor64 shl32_run shr32_run shl64_run shr64_run not32 not32' xor32_all w_u32_u8 w_u64_u8 w_i64_u8 w_u8_u32 w_u8_u64 w_u32_u64 w_u64_u32 w_u8_u8 w_u32_u32 w_u64_u64 w_u64_nat w_u32_nat w_u8_nat
set_option maxRecDepth 4000
section
variable {F : Fence} {n : Nat} {P : Program} {ops : Array Oper} {Q : Exit → Act → World → Prop} {a : Act} {W : World} {dst : Option Tmp} {ty : TypeId} {pos : String} {aft : Array Edge} {gd : Option (Nat × Bool)}
theorem wpIn_mv (hF : Wide F) {x : Operand} {K : Act → World → Prop} (h : K (a.put dst (a.eval x)) W) : Oper.wpIn F n P ⟨dst, .move x, ty, pos, aft, gd⟩ a W K Q := by
  refine ⟨fun f _ => hF.fn f, ?_⟩
  rw [Oper.semAt_eq _ _ _ (fun c h => by cases h)]
  exact h
theorem wpIn_as (hF : Wide F) {x : Operand} {K : Act → World → Prop} (h : K (a.put dst (a.eval x)) W) : Oper.wpIn F n P ⟨dst, .assign x, ty, pos, aft, gd⟩ a W K Q := by
  refine ⟨fun f _ => hF.fn f, ?_⟩
  rw [Oper.semAt_eq _ _ _ (fun c h => by cases h)]
  exact h
theorem wpIn_al (hF : Wide F) {T : TypeId} {inf : TypeInfo} {z : Value} (hi : P.info? T = some inf) (hz : inf.zero = some z) {K : Act → World → Prop} (h : K (a.put dst (.pointer (some ⟨W.heap.size, 0, none⟩))) (W.alloc (.cells z.cells T))) :
    Oper.wpIn F n P ⟨dst, .alloc T, ty, pos, aft, gd⟩ a W K Q := by
  refine ⟨fun f _ => hF.fn f, ?_⟩
  rw [Oper.semAt_eq _ _ _ (fun c h => by cases h)]
  have hrun : (execOp a.eval ⟨dst, .alloc T, ty, pos, aft, gd⟩).run P W = .ok (.value (.pointer (some ⟨W.heap.size, 0, none⟩))) (W.alloc (.cells z.cells T)) := by
    refine runv (s := Instr.alloc T true (.tuple #[])) ?_
    simp [Instr.alloc, newVar, newRow, zeroValue, typeInfo, hi, hz, Sem.run_bind, Sem.run_pure, Result.andThen_ok]
  rw [hrun]
  exact h
theorem wpIn_cl (hF : Wide F) {f : FuncId} {fn : Func} {c : Code} (hf : P.funcs[f]? = some fn) (hname : (fn.name == "runtime.NumGoroutine") = false) (hb : fn.body = some c) {xs : Array Operand} {ats : Array TypeId} {vs : Array Value} (hv : xs.map a.eval = vs)
    {R : Ending → World → Prop} (hc : Calls P f vs W R) {K : Act → World → Prop} (hK : ∀ e W', R e W' → ∃ v, e = .returned v ∧ K (a.put dst v) W') : Oper.wpIn F n P ⟨dst, .call ⟨.value (.func f), xs, ats⟩, ty, pos, aft, gd⟩ a W K Q := by
  refine ⟨fun f _ => hF.fn f, ?_⟩
  rw [Oper.semAt_eq _ _ _ (fun c h => by cases h)]
  have hrun : (execOp a.eval ⟨dst, .call ⟨.value (.func f), xs, ats⟩, ty, pos, aft, gd⟩).run P W = .ok (.enter f vs) W := by
    have := run_enter hf hname hb vs W
    show (do let d ← Deferred.ofValue (.func (.func f) #[] #[]) (xs.map a.eval); invoke d.target d.args : Sem Next).run P W = _
    rw [hv]
    show (callFunc f (#[] ++ vs ++ #[])).run P W = _
    simpa using this
  rw [hrun]
  refine ⟨fun h => (by rw [hF.depth] at h; cases h), (hF.calls hc).mono ?_⟩
  rintro e W' he
  obtain ⟨v, rfl, h⟩ := hK e W' he
  exact h
theorem wpIn_lv (lp : Nat) {p v ia : Nat} {y : Value} (hp : p < a.tmps.size) {K : Act → World → Prop} (hK : K { tmps := (a.tmps.setIfInBounds p y).setIfInBounds v y, defers := [] } W) :
    (Code.region ia #[⟨some v, .assign (.tmp p), ty, pos, aft, none⟩] false).wpIn (Fence.wide.inRound lp) n P (Exit.then K Q) { tmps := (#[p].zip #[y]).foldl (fun t (q, v) => t.setIfInBounds q v) a.tmps, defers := [] } W := by
  refine wpIn_region_lit (l := [_]) (wpListIn_one rfl (wpIn_as (Wide.rd lp) ?_))
  have h1 : (({ tmps := (#[p].zip #[y]).foldl (fun t (q, v) => t.setIfInBounds q v) a.tmps, defers := [] } : Act).eval (.tmp p)) = y := by simp [Act.eval, Array.getD_eq_getD_getElem?, hp]
  rw [h1]
  have h2 : Act.put { tmps := (#[p].zip #[y]).foldl (fun t (q, v) => t.setIfInBounds q v) a.tmps, defers := [] } (some v) y = { tmps := (a.tmps.setIfInBounds p y).setIfInBounds v y, defers := [] } := by simp [Act.put]
  rw [h2]
  exact hK
end
theorem WPM.from {P : Program} {A : Amb} {rs : List Tmp} {res : AV} {H' : List (Option AO)} {c : Code} {σ σ' : AS} (h : SEnt A σ σ') (k : WPM P A rs res H' c σ') : WPM P A rs res H' c σ :=
  ⟨fun ρ a w hs => by obtain ⟨ρ', hs'⟩ := h ρ a w hs; exact k.run ρ' a w hs'⟩

theorem joinL_flat (f : Nat → Txw) : ∀ n, joinL f n = (endsL f n).flatten
  | 0 => rfl
  | n + 1 => by rw [joinL, joinL_flat f n, endsL_succ, List.flatten_append]; simp
theorem flat_len : ∀ l : List Tx16, (vals l).flatten.length ≤ 16 * l.length
  | [] => Nat.le_refl _
  | x :: l => by
    have h1 := flat_len l
    have h2 := x.2
    show (x.1 ++ (vals l).flatten).length ≤ _
    rw [List.length_append, List.length_cons]
    omega
theorem own_cells {w : World} {base : Nat} {v : Value} {l : List UInt8} (h : obytes w base v l) {k : Nat} (hk : v.ownBlock = some k) : ∃ o : Obj, w.heap[k]? = some o ∧ o.isCells = true := by
  rcases h.2 with ⟨rfl, -⟩ | ⟨g, cap, cur, rfl, -, hg, -⟩
  · cases hk
  · cases hk
    exact ⟨_, hg, rfl⟩
theorem bld_rest {w w' : World} {base b : Nat} {v : Value} {l : List UInt8} (h : Bld w base b v l) {row : Option Nat} (hg : w.grownBy w' row) (hr : ∀ r, row = some r → ∃ o : Obj, w.heap[r]? = some o ∧ o.isCells = false) : Bld w' base b v l := by
  have key : ∀ (k : Nat) (o : Obj), w.heap[k]? = some o → o.isCells = true → w'.heap[k]? = w.heap[k]? := fun k o ho hc => grownBy_keeps_cells hg hr ho hc
  have hb : w'.heap[b]? = w.heap[b]? := by rcases h.at_ with h | h <;> exact key b _ h rfl
  refine ⟨by rw [hb]; exact h.at_, ?_, h.ne⟩
  have hf : Fr row.toList w w' := Fr.of_grown hg
  refine h.own.kept hf fun k hk hkr => ?_
  obtain ⟨c, hc⟩ := own_cells h.own hk
  cases row with
  | none => simp at hkr
  | some r =>
    simp only [Option.toList_some, List.mem_singleton] at hkr
    subst hkr
    obtain ⟨o, ho, hno⟩ := hr k rfl
    rw [hc.1] at ho
    cases ho
    rw [hc.2] at hno
    cases hno
attribute [local irreducible] sum tag input laidN wstep walkT secretT digitsT
theorem bld_info : ∃ inf : TypeInfo, Tryd.prog.info? 77 = some inf ∧ inf.zero = some (.agg #[.pointer none, .slice none 0 0]) := ⟨_, rfl, rfl⟩
theorem sign_seq {G : List (Nat × Array Value)} (hm : ShaIn G) (s : Txw) (leaf : Int) (msg : Txw) (hv : s.length ≤ 140737488355264) : SeqC Tryd.prog G 68 [.sptr [alwA 0], .sptr [digA 49 (digitsT msg)], .sptr [secA s leaf]] encT ((List.range 10).map (tx16 (signF s leaf (digitsT msg)) fun c => by rw [signF_length]; exact Nat.le_refl _)) :=
  walks_seq hm (fr := fun _ => 0) (to := fun c => (nget (digitsT msg) c : Nat)) (fst := fun c => secretT s leaf c) (fun c _ => alwaysC_fc c 0) (fun c hc => signC_fc c (digitsT msg) (by rw [digitsT_length]; exact hc)) (fun c _ => secretC_fc hm c leaf s hv) (fun _ => by decide) (fun c => i64_nat (el_lt msg c))
    (fun c => by rw [secretT_length]; decide) (fun c _ => rfl) rfl (renL_dig _ _) rfl
set_option maxHeartbeats 1000000 in
theorem sign_fc {G : List (Nat × Array Value)} (hm : ShaIn G) (s : Txw) (leaf : Int) (msg : Txw) (hv : s.length ≤ 140737488355264) (hv2 : msg.length ≤ 140737488355264) :
    FC Tryd.prog G 24 [sA s, .v (.int .i64 leaf), sA msg] [] (sA (signT s leaf msg)) [] := by
  have hdg := digits_fc (G := G) hm msg hv2
  have hseq := sign_seq hm s leaf msg hv
  have hwk := walks_fc (G := G) (alwA 0) (digA 49 (digitsT msg)) (secA s leaf) rfl (ren_dig _ _ _) rfl ⟨trivial, ⟨trivial, trivial⟩, trivial⟩ (bel_dig _ _ _) ⟨trivial, ⟨trivial, trivial⟩, ⟨trivial, trivial⟩, trivial⟩ rfl rfl rfl
  obtain ⟨d, hd⟩ : ∃ d, d = digitsT msg := ⟨_, rfl⟩
  obtain ⟨L, hL⟩ : ∃ L : List Tx16, L = (List.range 10).map (tx16 (signF s leaf (digitsT msg)) fun c => by rw [signF_length]; exact Nat.le_refl _) := ⟨_, rfl⟩
  have hLl : L.length = 10 := by rw [hL]; simp
  have hres : (vals L).flatten = signT s leaf msg := by rw [hL, vals_range, ← joinL_flat]; rfl
  have hne : (vals L).flatten ≠ [] := by rw [hres]; exact fun e => by have := signT_length s leaf msg; rw [e] at this; simp at this
  rw [← hL] at hseq
  rw [← hd] at hdg hseq hwk
  clear hL
  refine FC.of_wpm [6] Tryd.func24 rfl rfl rfl rfl ⟨trivial, trivial, trivial, trivial⟩ trivial (by exact Nat.le_of_ble_eq_true rfl) ?_
  intro A hG hnA hAB
  unfold start
  refine WPM.seq ?_
  refine WP.rg hG ?_
  refine Ch.asg rfl rfl ?_
  refine Ch.nil ?_
  refine WPM.seq ?_
  refine WP.rg hG ?_
  refine Ch.mv rfl rfl ?_
  refine Ch.callS (hdg) gdN (by repeat (first | exact EvL.nil | (apply EvL.cons; exact rfl))) (by exact (And.intro (by first | exact .rfl _ | exact .untip _ _ _ | exact .nil | exact .func _ | exact AV.wk.sh (renL_s _ _) | exact AV.wk.sh (by simp; first | done | fail)) trivial)) (by first | rfl | simp) rfl ?_
  refine Ch.al gdN (by exact trivial) (OpS.alloc 0 rfl rfl rfl) (by first | exact trivial | exact ⟨rfl, trivial⟩) (by first | exact trivial | exact ⟨rfl, trivial⟩ | exact ⟨rfl, rfl, trivial⟩) rfl ?_
  refine Ch.wr gdN (by exact ⟨rfl, rfl, trivial⟩) (OpS.storeP (cs := [.v (.slice none 0 0)]) rfl rfl rfl (by simp)) (by first | exact trivial | exact ⟨rfl, trivial⟩) (by first | exact trivial | exact ⟨rfl, trivial⟩ | exact ⟨rfl, rfl, trivial⟩) ?_
  refine Ch.nil ?_
  refine WPM.from ((SEnt.frz (t := 7) (id := 0) rfl rfl).trans (Ent.of (l := [(0, sA s), (1, .v (.int .i64 leaf)), (7, .sptr [.sl none d.length (d.map nA)])]) (lo := []) (m := 1) [] ?_ ?_ ?_ ?_).se) ?_
  · exact (fun i hi => by rw [hnA] at hi; simp only [List.length_cons, List.length_nil] at hi ⊢; first | exact absurd hi (Nat.not_lt_zero _) | (revert i; decide))
  · (repeat (first | exact trivial | (refine And.intro ⟨(by first | trivial | (simp; first | done | fail) | exact ⟨trivial, hbel _⟩), _, rfl, (by first | exact .rfl _ | exact .nil | exact .of_eq (by simp; first | done | fail) | exact AV.wk.sh (by simp; first | done | fail) | exact .untip _ _ _)⟩ ?_)))
  · (repeat (first | exact trivial | (refine And.intro ⟨rfl, (by first | trivial | (simp; first | done | fail) | exact ⟨trivial, hbel _⟩), (by first | rfl | (simp; first | done | fail))⟩ ?_)))
  · simp [rn]
  constructor
  intro ρ a w hs
  have hno : ∀ i ob, lh [] i = some ob → False := fun i ob h => by cases h
  obtain ⟨inf, hi1, hi2⟩ := bld_info
  refine (wpIn_wide (n := 4)).1 (wpIn_seq (wpIn_region_lit (l := [_]) (wpListIn_one rfl (wpIn_al Wide.w hi1 hi2 ?_))))
  obtain ⟨w1, hw1⟩ : ∃ w1, w1 = w.alloc (.cells (Value.agg #[.pointer none, .slice none 0 0]).cells 77) := ⟨_, rfl⟩
  obtain ⟨N, hN⟩ : ∃ N, N = Nh A (lh []) ρ w := ⟨_, rfl⟩
  have hz1 : w1.heap.size = w.heap.size + 1 := by rw [hw1]; simp
  have ho1 : ∀ k, k < w.heap.size → w1.heap[k]? = w.heap[k]? := fun k hk => by rw [hw1]; exact Below.heap_alloc w _ k hk
  have hNlt : ∀ b o, N b o → b < w.heap.size := fun b o hn => by rw [hN] at hn; exact hn.1
  have htw : ∀ x ∈ G, ∃ T, w.heap[x.1]? = some (.cells x.2 T (0, 0)) := fun x hx => (hs.mem.now.tabs x (by show x ∈ A.G; rw [hG]; exact hx)).1
  have htlt : ∀ x ∈ G, x.1 < w.heap.size := fun x hx => by obtain ⟨T, hT⟩ := htw x hx; exact (Array.getElem?_eq_some_iff.1 hT).1
  have hSt : Stand G (Ns N w1) w1 := ⟨fun b o hn => by have := hNlt b o hn.1; omega, fun x hx => by rw [ho1 _ (htlt x hx)]; exact htw x hx⟩
  obtain ⟨S, hS⟩ : ∃ S : List (Nat × AV), S = [(0, sA s), (1, .v (.int .i64 leaf)), (7, .sptr [.sl none d.length (d.map nA)])] := ⟨_, rfl⟩
  rw [← hw1]
  show Code.wpIn Fence.wide 4 _ (Code.seq _ _) _ (a.put (some 8) (.pointer (some ⟨w.heap.size, 0, none⟩))) w1
  have hI1 : It G N w1 (fun _ => True) 22 S (a.put (some 8) (.pointer (some ⟨w.heap.size, 0, none⟩))) w1 := by
    refine ⟨?_, by simp [Act.put, hs.nt], (put_defers _ _ _).trans hs.defers, trivial, ⟨fun _ _ _ => rfl, fun _ _ => rfl⟩⟩
    have hsl : Sl (Ns N w1) w1 S a := fun t v ht => by
      obtain ⟨x, hx, hvx⟩ := hs.slots t v (by rw [← hS]; exact ht)
      refine ⟨x, hx, VRel.noE (ρ := ρ) (VRel.ns (hvx.mono (fun b o hb => by rw [hN]; exact hb) (Env.le_refl _) (fun b o hb => World.cell?_of_block (w := w) (ho1 b hb.1)))) ?_⟩
      subst hS
      have hm' := ls_some ht
      simp only [List.mem_cons, Prod.mk.injEq, List.not_mem_nil, or_false] at hm'
      rcases hm' with ⟨rfl, rfl⟩ | ⟨rfl, rfl⟩ | ⟨rfl, rfl⟩
      · exact trivial
      · exact trivial
      · exact ⟨⟨by simp, belL_n _ _⟩, trivial⟩
    exact hsl.put (by subst hS; rfl)
  refine wpIn_seq (wpIn_seq (wpIn_rg Wide.w rfl (A := AW G (Ns N w1) w1) rfl (K := fun σ => σ.n = 22 ∧ σ.h = hl [] ∧ σ.s 17 = some (AV.ren (pi [] 0) (.fn (.func 68) [] [.sptr [alwA 0], .sptr [digA 49 d], .sptr [secA s leaf]]))) ?_ (hI1.sat hSt) ?_))
  · subst hS
    refine Ch.mv rfl rfl ?_
    refine Ch.mv rfl rfl ?_
    refine Ch.callP (secrets_fc s leaf) gdN (by repeat (first | exact EvL.nil | (apply EvL.cons; exact rfl))) (by exact (And.intro (by first | exact .rfl _ | exact .untip _ _ _ | exact .nil | exact .func _ | exact AV.wk.sh (renL_s _ _) | exact AV.wk.sh (by simp; first | done | fail)) (And.intro (by first | exact .rfl _ | exact .untip _ _ _ | exact .nil | exact .func _ | exact AV.wk.sh (renL_s _ _) | exact AV.wk.sh (by simp; first | done | fail)) trivial))) (by rfl) rfl ?_
    refine Ch.callP (always_fc 0) gdN (by repeat (first | exact EvL.nil | (apply EvL.cons; exact rfl))) (by exact (And.intro (by first | exact .rfl _ | exact .untip _ _ _ | exact .nil | exact .func _ | exact AV.wk.sh (renL_s _ _) | exact AV.wk.sh (by simp; first | done | fail)) trivial)) (by rfl) rfl ?_
    refine Ch.mf gdN (by repeat (first | exact EvL.nil | (apply EvL.cons; exact rfl))) rfl ?_
    refine Ch.callP (hwk) gdN (EvL.cons rfl (EvL.cons rfl (EvL.cons rfl EvL.nil))) (⟨.rfl _, .rfl _, .of_eq (ren_dig _ _ _).symm, trivial⟩) (by rfl) rfl ?_
    exact Ch.nil ⟨rfl, rfl, rfl⟩
  rintro ρ3 σ3 a3 w3 ⟨n3, h3, k17⟩ s3 f3
  have hI3 := hI1.go s3 n3 f3 (by subst hS; rfl) (fun _ _ _ _ => trivial)
  obtain ⟨hg3, -⟩ := AW.next s3.mem
  obtain ⟨xw, hxw, hvw⟩ := s3.slots 17 _ k17
  rw [h3] at hvw
  obtain ⟨N3, hN3⟩ : ∃ N3, N3 = Nh (AW G (Ns N w1) w1) (hl []) ρ3 w3 := ⟨_, rfl⟩
  rw [← hN3, show AV.ren (pi [] 0) (.fn (.func 68) [] [.sptr [alwA 0], .sptr [digA 49 d], .sptr [secA s leaf]]) = .fn (.func 68) [] [.sptr [alwA 0], .sptr [digA 49 d], .sptr [secA s leaf]] by simp] at hvw
  have hN3b : ∀ b o, N3 b o → b < w3.heap.size ∧ b ≠ w.heap.size := fun b o hn => by
    rw [hN3] at hn
    refine ⟨hn.1, ?_⟩
    rcases hn.2.1 with hx | hx | hx
    · have := hNlt b o hx.1; omega
    · exact hx.elim
    · have : w1.heap.size ≤ b := hx
      omega
  obtain ⟨us, hus, hcap, hev⟩ : ∃ us : Array Value, us.size = 3 ∧ (∀ (i : Nat) (c : AV) (x : Value), [AV.sptr [alwA 0], .sptr [digA 49 d], .sptr [secA s leaf]][i]? = some c → us[i]? = some x → VRel N3 ρ3 w3 c x) ∧ xw = .func (.func 68) #[] us := by
    cases hvw with
    | fn f' fs cs vs us hs1 k1 hs2 k2 =>
      refine ⟨us, hs2, k2, ?_⟩
      obtain rfl := Array.eq_empty_of_size_eq_zero (by simpa using hs1)
      rfl
  subst hev
  have hbk3 : w3.heap[w.heap.size]? = some (.cells #[.pointer none, .slice none 0 0] 77 (0, 0)) := by
    rw [hg3.block _ (by omega) (by simp), hw1]
    exact heap_alloc_new w _
  have hp8 : a3.tmps[8]? = some (.pointer (some ⟨w.heap.size, 0, none⟩)) := by
    rw [f3.2 8 (by decide)]
    simp [Act.put, hs.nt]
  have ht3 : ∀ x ∈ G, ∃ T, w3.heap[x.1]? = some (.cells x.2 T (0, 0)) := (hSt.next hI3.kp).tab
  have hsz3 : a3.tmps.size = 22 := hI3.n
  have hd3 : a3.defers = [] := hI3.d
  show Code.wpIn Fence.wide 4 _ (Code.block 0 _) _ a3 w3
  refine wpIn_block (wpIn_rangeFunc_ownF (F := Fence.wide) (n := 4) rfl (by omega) (gf := 68) (lb := us) (eval_of hxw) trivial (fun args W => run_enter Tryd.func68 rfl rfl args W) (hseq.stops 3 w3 N3 ρ3 us (fun b o hn => (hN3b b o hn).1) ht3 hus hcap) ?_ ?_ (Below.refl _ _) (fun _ => rfl)
    (fun pre W => (∃ v, Bld W w3.heap.size w.heap.size v (vals pre).flatten) ∧ Fr [w.heap.size] w3 W) (fun _ _ _ => False) ?_ (fun _ _ _ _ _ hx _ _ => hx) ⟨⟨_, .inl hbk3, obytes_nil _ _, by simp [Value.ownBlock]⟩, Fr.refl _ _⟩
    (fun x => { tmps := (a3.tmps.setIfInBounds 18 (encT x)).setIfInBounds 9 (encT x), defers := [] }) ?assign ?body ?done (fun _ _ _ _ _ _ hx => hx.elim))
  · intro A' B' C' h1 h2
    exact KpN.trans h1 h2
  · intro W k o o' hk hl hc _
    have key : ∀ b, b < w3.heap.size → (W.putObj k o').heap[b]? = W.heap[b]? := fun b hb => World.putObj_heap_other (by omega)
    refine ⟨fun b o hn => World.cell?_of_block (w := W) (key b (hN3b b o hn).1), fun x hx => key _ ?_⟩
    obtain ⟨T, hT⟩ := ht3 x hx
    exact (Array.getElem?_eq_some_iff.1 hT).1
  · rintro pre W W' row ⟨⟨v, hB⟩, hF⟩ hgr hr
    exact ⟨⟨v, bld_rest hB hgr fun r e => (hr r e).2⟩, hF.grown hgr fun k e => .inr (hr k e).1⟩
  case assign =>
    intro lp x W K hK
    exact wpIn_lv lp (by rw [hsz3]; decide) hK
  case body =>
    rintro lp pre x W ⟨⟨v, hB⟩, hF⟩ hlen
    rw [hLl] at hlen
    have hfl := flat_len pre
    have hx := x.2
    refine wpIn_block (wpIn_region_lit (l := [_, _]) (wpListIn_one rfl (wpIn_mv (Wide.rd lp) (wpListIn_one rfl (wpIn_cl (Wide.rd lp) (vs := #[.pointer (some ⟨w.heap.size, 0, none⟩), .string (B x.1)]) Tryd.func50 rfl rfl ?_ (writeString_ok w3.heap.size w.heap.size v (vals pre).flatten x.1 W hB (by omega) hF.size) ?_)))))
    · have e8 : ∀ y : Value, (Act.put { tmps := (a3.tmps.setIfInBounds 18 (encT x)).setIfInBounds 9 (encT x), defers := [] } (some 19) y).eval (.tmp 8) = .pointer (some ⟨w.heap.size, 0, none⟩) := fun y => eval_of (by
        show ((((a3.tmps.setIfInBounds 18 _).setIfInBounds 9 _).setIfInBounds 19 _))[8]? = _
        rw [Array.getElem?_setIfInBounds_ne (by decide), Array.getElem?_setIfInBounds_ne (by decide), Array.getElem?_setIfInBounds_ne (by decide)]
        exact hp8)
      have e9 : (Act.eval { tmps := (a3.tmps.setIfInBounds 18 (encT x)).setIfInBounds 9 (encT x), defers := [] } (.tmp 9)) = .string (B x.1) := eval_of (by simp [hsz3, encT])
      have e19 : ∀ y : Value, (Act.put { tmps := (a3.tmps.setIfInBounds 18 (encT x)).setIfInBounds 9 (encT x), defers := [] } (some 19) y).eval (.tmp 19) = y := fun y => eval_of (by simp [Act.put, hsz3])
      simp only [List.map_toArray, List.map_cons, List.map_nil, e8, e19, e9]
    · rintro e W' ⟨rfl, v', hB', hF', -⟩
      refine ⟨_, rfl, ?_⟩
      show KeepsOthers W W' ∧ KpN N3 G W W' ∧ _
      have hown : ∀ k, k ∈ w.heap.size :: v.ownBlock.toList → (∃ o : Obj, W.heap[k]? = some o ∧ o.isCells = true) ∧ (k = w.heap.size ∨ w3.heap.size ≤ k) := fun k hk => by
        rcases List.mem_cons.1 hk with rfl | hk
        · exact ⟨by rcases hB.at_ with h | h <;> exact ⟨_, h, rfl⟩, .inl rfl⟩
        · have hk' : v.ownBlock = some k := by simpa using hk
          exact ⟨own_cells hB.own hk', .inr (hB.own.lt k hk').1⟩
      refine ⟨⟨hF'.size, fun k o hko hno => ?_⟩, ⟨fun b o hn => hF'.cell (Nat.lt_of_lt_of_le (hN3b b o hn).1 hF.size) fun hb => ?_, fun y hy => hF'.block _ ?_ fun hb => ?_⟩, ⟨v', by rw [vals_append, vals_one, List.flatten_append]; simpa using hB'⟩, hF.trans' hF' (fun _ h => .inl h) fun k hk => ?_⟩
      · refine (hF'.block k (Array.getElem?_eq_some_iff.1 hko).1 fun hk => ?_).trans hko
        obtain ⟨⟨o', ho', hc'⟩, -⟩ := hown k hk
        rw [hko] at ho'
        cases ho'
        rw [hno] at hc'
        cases hc'
      · have := hN3b b o hn
        rcases (hown b hb).2 with h | h <;> omega
      · obtain ⟨T, hT⟩ := ht3 y hy
        exact Nat.lt_of_lt_of_le (Array.getElem?_eq_some_iff.1 hT).1 hF.size
      · have h1 := htlt y hy
        have h2 := hg3.size
        rcases (hown _ hb).2 with h | h <;> omega
      · rcases (hown k hk).2 with h | h
        · exact .inl (by simp [h])
        · exact .inr h
  case done =>
    rintro D xs W hD rfl ⟨⟨v, hB⟩, hF⟩ hDd
    show Code.wpIn Fence.wide 4 _ (Code.seq _ _) _ { a3 with defers := _ } W
    refine wpIn_seq (wpIn_region_lit (l := [_, _]) (wpListIn_one rfl (wpIn_cl Wide.w (vs := #[.pointer (some ⟨w.heap.size, 0, none⟩)]) Tryd.func51 rfl rfl (by simp only [List.map_toArray, List.map_cons, List.map_nil]; exact congrArg (fun y => #[y]) (eval_of hp8)) (builderString_ok w3.heap.size w.heap.size v _ W hB hne) ?_)))
    rintro e W' ⟨rfl, hF'⟩
    refine ⟨_, rfl, wpListIn_one rfl (wpIn_as Wide.w ?_)⟩
    rw [eval_of (a := Act.put { a3 with defers := _ } (some 21) _) (x := .string (B (vals xs).flatten)) (by simp [Act.put, hsz3])]
    show Code.wpIn Fence.wide 4 _ Code.ret _ _ W'
    have hall : ∀ k, k < w.heap.size → W'.heap[k]? = w.heap[k]? := fun k hk => by
      have z3 := hg3.size
      rw [hF'.block k (by have := hF.size; omega) (fun hkk => by have := (hB.own.lt k (by simpa using hkk)).1; omega), hF.block k (by omega) (by simp; omega), hg3.block k (by omega) (by simp), ho1 k hk]
    have hos : W'.os = w.os ∧ W'.tape = w.tape ∧ W'.output = w.output := by
      rw [hF'.os, hF.os, hg3.os, hF'.tape, hF.tape, hg3.tape, hF'.output, hF.output, hg3.output, hw1]
      exact ⟨rfl, rfl, rfl⟩
    obtain ⟨m1, -, -⟩ := hs.mem.grow hos.1 hos.2.1 hos.2.2 (by have := hF'.size; have := hF.size; have := hg3.size; omega) hall
    refine wpIn_ret ⟨.inr rfl, .inr ⟨D, ?_, ?_, ?_⟩, ρ, ⟨22, ls [(6, sA (signT s leaf msg))], lh [], blt 1⟩, ⟨m1, fun t v ht => ?_, ?_, rfl⟩, Ret.one rfl (.rfl _) trivial hnA⟩
    · rw [put_defers, put_defers]
      show mark D :: a3.defers = _
      rw [hd3]
    · refine (hF'.block D (Array.getElem?_eq_some_iff.1 hDd).1 fun hk => ?_).trans hDd
      obtain ⟨o, ho, hc⟩ := own_cells hB.own (by simpa using hk)
      rw [hDd] at ho
      cases ho
      cases hc
    · have := hs.mem.size
      have := hg3.size
      omega
    · have hm' := ls_some ht
      simp only [List.mem_singleton, Prod.mk.injEq] at hm'
      obtain ⟨rfl, rfl⟩ := hm'
      exact ⟨.string (B (vals xs).flatten), by simp [bare, Act.put, hsz3], by rw [hres]; exact .v _⟩
    · simp [bare, Act.put, hsz3]
end Go.Proofs.YtcojfnjpcpochaaDoor.E
end
section
namespace Go.Proofs.YtcojfnjpcpochaaDoor.E
open Go Go.RowKit Go.Proofs.YtcojfnjpcpochaaDoor.V
section
variable {P : Program} {G : List (Nat × Array Value)} {dst : Option Tmp} {ty : TypeId} {pos : String} {aft : Array Edge} {gd : Option (Nat × Bool)} {t t' e : TypeId} {x y : Operand}
theorem run_eqPtr1 (w : World) (ad : Addr) (hu : P.underlying t = some (.pointer e)) : (binOp .eql t (.pointer (some ad)) (.pointer none)).run P w = .ok (.bool false) w := by
  have key : ∀ d, (Op.equalIn (d + 1) t (.pointer (some ad)) (.pointer none)).run P w = .ok false w := fun d => by simp [Op.equalIn, run_underlying hu, Sem.run_bind, Sem.run_pure, Result.andThen_ok]
  show (do pure (Value.bool (← Op.equalIn (9999 + 1) t (.pointer (some ad)) (.pointer none))) : Sem Value).run P w = _
  rw [Sem.run_bind, key]
  rfl
inductive Pts : AV → Prop
  | p (id off : Nat) : Pts (.ptr id off)
  | s (cs : List AV) : Pts (.sptr cs)
theorem Pts.val {N : Nat → Nat → Prop} {ρ : Env} {w : World} {c : AV} {v : Value} (h : Pts c) (hv : VRel N ρ w c v) : ∃ a, v = .pointer (some a) := by
  cases h with
  | p id off => cases hv; exact ⟨_, rfl⟩
  | s cs => cases hv; exact ⟨_, rfl⟩
theorem OpS.eqNil {c : AV} (hp : Pts c) (hu : P.underlying t = some (.pointer e)) : OpS P G ⟨dst, .binOp .eql t x y t', ty, pos, aft, gd⟩ [(x, c), (y, .v (.pointer none))] [] ⟨some (.v (.bool false)), [], []⟩ :=
  OpS.still fun A ρ σ a w _ h _ hs => by
    obtain ⟨ad, hx⟩ := hp.val (hs.ev h.1)
    refine ⟨_, ?_, .v _⟩
    show (do pure (Next.value (← (do eqGuard .eql t x y (a.eval x) (a.eval y); binOp .eql t (a.eval x) (a.eval y)))) : Sem Next).run P w = _
    refine runv ?_
    rw [hx, (hs.ev h.2.1).raw]
    have := run_eqPtr1 (P := P) w ad hu
    simpa [eqGuard, Sem.run_bind, Sem.run_pure, Result.andThen_ok] using this
end
end Go.Proofs.YtcojfnjpcpochaaDoor.E
end
section
namespace Go.Proofs.YtcojfnjpcpochaaDoor.E
open Go Go.RowKit Go.Proofs.YtcojfnjpcpochaaDoor.V
section
variable {P : Program} {G : List (Nat × Array Value)} {dst : Option Tmp} {ty : TypeId} {pos : String} {aft : Array Edge} {gd : Option (Nat × Bool)}
theorem OpS.s2b {src d e : TypeId} {x : Operand} {l : List UInt8} (hs : P.underlying src = some .string) (hd : P.underlying d = some (.slice e)) (he : P.underlying e = some (.int .u8)) (hl : l.length ≤ maxLen) :
    OpS P G ⟨dst, .convert src d x, ty, pos, aft, gd⟩ [(x, .v (.string (B l)))] [] ⟨some (.sl none l.length (l.map fun b => .v (bv b))), [], []⟩ := by
  refine OpS.act fun A ρ σ a w _ h hp hu hst => ?_
  have hz : (B l).size = l.length := by simp [B, ByteArray.size]
  have hr := Lib.run_convert_string_bytes (P := P) w src d e (B l) hs hd he
  rw [hz] at hr
  have hge := grownCap_ge w l.length 0 e
  have hsz : (Lib.bytesCells w e (B l)).size = grownCap w l.length 0 e := by
    simp only [Lib.bytesCells, Array.size_append, Array.size_map, Array.size_replicate, hz]
    have : (B l).data.size = l.length := hz
    rw [this]
    omega
  obtain ⟨k1, k2, k3⟩ := new_slice (w' := Lib.bytesWorld w e (B l)) (cs := l.map fun b => AV.v (bv b)) (n := l.length) (cap := grownCap w l.length 0 e) hst.mem rfl rfl rfl (Lib.bytesWorld_size w e (B l)) (fun k hk => Lib.bytesWorld_at_old w e (B l) k hk) (Lib.bytesWorld_at_new w e (B l))
    (by rw [hsz, List.length_map]; exact hge) hge (grownCap_le_maxLen w _ 0 e hl) (fun j c v hc hv => by
      have hjl : j < l.length := by have := (List.getElem?_eq_some_iff.1 hc).1; simpa using this
      have e1 : (Lib.bytesCells w e (B l))[j]? = some (bv l[j]) := by
        unfold Lib.bytesCells
        rw [Array.getElem?_append_left (by rw [Array.size_map]; exact Nat.lt_of_lt_of_eq hjl hz.symm)]
        simp [B, bv, U8, hjl]
      rw [e1] at hv
      cases hv
      rw [List.getElem?_map, List.getElem?_eq_getElem hjl] at hc
      cases hc
      exact ⟨.v _, rfl⟩)
  refine ⟨_, _, ρ, .inl ?_, k1, k2, fun v hv => by cases hv; exact k3⟩
  refine runv (s := convert src d (a.eval x)) ?_
  rw [(hst.ev h.1).raw]
  exact hr
end
end Go.Proofs.YtcojfnjpcpochaaDoor.E
end
section
namespace Go.Proofs.YtcojfnjpcpochaaDoor.E
open Go Go.RowKit Go.Proofs.YtcojfnjpcpochaaDoor.V
section
variable {P : Program} {G : List (Nat × Array Value)} {dst : Option Tmp} {ty : TypeId} {pos : String} {aft : Array Edge} {gd : Option (Nat × Bool)}
end
end Go.Proofs.YtcojfnjpcpochaaDoor.E
end
section
namespace Go.Proofs.YtcojfnjpcpochaaDoor.V
def valU (l : List UInt8) : UInt64 := l.foldl (fun n c => shl64 n 8 ||| c.toUInt64) 0
theorem valU_succ (l : List UInt8) (i : Nat) (h : i < l.length) : valU (l.take (i + 1)) = shl64 (valU (l.take i)) 8 ||| (l[i]'h).toUInt64 := by
  unfold valU
  rw [List.take_add_one, List.getElem?_eq_getElem h, List.foldl_append]
  rfl
theorem or_byte (a b : Nat) (h : b < 256) : a * 256 ||| b = a * 256 + b := by
  have := Nat.two_pow_add_eq_or_of_lt (i := 8) (b := b) (by omega) a
  rw [Nat.mul_comm] at this
  exact this.symm
theorem step_toNat (n : UInt64) (c : UInt8) (h : n.toNat < 2 ^ 56) : (shl64 n 8 ||| c.toUInt64).toNat = n.toNat * 256 + c.toNat := by
  have hc := c.toNat_lt
  rw [UInt64.toNat_or]
  unfold shl64
  rw [UInt64.toNat_ofNat', UInt8.toNat_toUInt64, Nat.mod_eq_of_lt (by omega)]
  exact or_byte _ _ (by omega)
theorem valU_lt : ∀ (k : Nat) (l : List UInt8), l.length = k → k ≤ 8 → (valU l).toNat < 256 ^ k
  | 0, l, h, _ => by
    obtain rfl := List.eq_nil_of_length_eq_zero h
    decide
  | k + 1, l, h, hk => by
    have e := valU_succ l k (by omega)
    rw [List.take_of_length_le (by omega)] at e
    have ih := valU_lt k (l.take k) (by rw [List.length_take]; omega) (by omega)
    have hle : 256 ^ k ≤ 2 ^ 56 := by
      have : (256 : Nat) ^ k ≤ 256 ^ 7 := Nat.pow_le_pow_right (by decide) (by omega)
      exact Nat.le_trans this (by decide)
    have hc := (l[k]'(by omega)).toNat_lt
    rw [e, step_toNat _ _ (by omega), Nat.pow_succ]
    omega
theorem valU_beP (x : UInt64) (size : Nat) (h8 : size ≤ 8) : ∀ m, m ≤ size → (valU (beP x size m)).toNat = x.toNat / 256 ^ (size - m) % 256 ^ m
  | 0, _ => by rw [beP_0, Nat.pow_zero, Nat.mod_one]; rfl
  | m + 1, h => by
    have ih := valU_beP x size h8 m (by omega)
    have hl := valU_lt m (beP x size m) (beP_length _ _ _) (by omega)
    have hle : 256 ^ m ≤ 2 ^ 56 := by
      have : (256 : Nat) ^ m ≤ 256 ^ 7 := Nat.pow_le_pow_right (by decide) (by omega)
      exact Nat.le_trans this (by decide)
    have e : valU (beP x size (m + 1)) = shl64 (valU (beP x size m)) 8 ||| (UInt8.ofNat (x.toNat / 256 ^ (size - 1 - m))).toUInt64 := by
      rw [beP_succ]; unfold valU; rw [List.foldl_append]; rfl
    rw [e, step_toNat _ _ (by omega), ih, UInt8.toNat_ofNat', show size - (m + 1) = size - 1 - m by omega]
    have e2 : size - m = size - 1 - m + 1 := by omega
    rw [e2, Nat.pow_succ 256 (size - 1 - m), ← Nat.div_div_eq_div_mul]
    generalize x.toNat / 256 ^ (size - 1 - m) = y
    rw [show (256 : Nat) ^ (m + 1) = 256 * 256 ^ m by rw [Nat.pow_succ, Nat.mul_comm], Nat.mod_mul]
    omega
theorem valU_beS (x : UInt64) (m : Nat) (h : m ≤ 8) : (valU (beS x m)).toNat = x.toNat % 256 ^ m := by
  unfold beS
  rw [valU_beP x m h m (Nat.le_refl _), Nat.sub_self, Nat.pow_zero, Nat.div_one]
theorem valU_be8 (x : UInt64) : valU (beS x 8) = x := by
  apply UInt64.toNat_inj.1
  rw [valU_beS x 8 (by decide)]
  have := x.toNat_lt
  exact Nat.mod_eq_of_lt (by omega)
def rdCut (n : Nat) (r : List UInt8 × Bool) : List UInt8 × List UInt8 × Bool := if r.2 = true ∨ r.1.length < n then ([], r.1, true) else (r.1.take n, r.1.drop n, false)
def rdNum (r : List UInt8 × Bool) : UInt64 × List UInt8 × Bool := (if (rdCut 8 r).2.2 = true then 0 else valU (rdCut 8 r).1, (rdCut 8 r).2)
def rdText (most : Nat) (r : List UInt8 × Bool) : List UInt8 × List UInt8 × Bool :=
  if (rdCut 4 r).2.2 = true then ([], (rdCut 4 r).2) else if most < (valU (rdCut 4 r).1).toNat then ([], (rdCut 4 r).2.1, true) else rdCut (valU (rdCut 4 r).1).toNat (rdCut 4 r).2
theorem rdCut_bad (n : Nat) (l : List UInt8) : rdCut n (l, true) = ([], l, true) := if_pos (.inl rfl)
theorem rdCut_short {n : Nat} {l : List UInt8} {b : Bool} (h : l.length < n) : rdCut n (l, b) = ([], l, true) := if_pos (.inr h)
theorem rdCut_fit {n : Nat} {l : List UInt8} (h : n ≤ l.length) : rdCut n (l, false) = (l.take n, l.drop n, false) := if_neg (fun k => k.elim (fun e => by cases e) (fun e => by have : l.length < n := e; omega))
theorem rdCut_len (n : Nat) (r : List UInt8 × Bool) : (rdCut n r).1.length ≤ n ∧ (rdCut n r).2.1.length ≤ r.1.length := by
  unfold rdCut
  split
  · exact ⟨Nat.zero_le _, Nat.le_refl _⟩
  · exact ⟨List.length_take_le _ _, by show (r.1.drop n).length ≤ _; rw [List.length_drop]; omega⟩
theorem rdCut_ok {n : Nat} {r : List UInt8 × Bool} (h : (rdCut n r).2.2 = false) : r.2 = false ∧ n ≤ r.1.length ∧ rdCut n r = (r.1.take n, r.1.drop n, false) := by
  unfold rdCut at h ⊢
  split at h
  · cases h
  · rename_i hn
    refine ⟨by rw [← Bool.not_eq_true]; exact fun e => hn (.inl e), by omega, if_neg hn⟩
end Go.Proofs.YtcojfnjpcpochaaDoor.V
end
section
namespace Go.Proofs.YtcojfnjpcpochaaDoor.E
open Go Go.RowKit Go.Proofs.YtcojfnjpcpochaaDoor.V
attribute [local go_sem] B_size B_append B_extract mk_B B_toList take_drop_len List.length_drop List.length_take sgn32 sgn64 add32 sub32 mul32 add64 sub64 mul64 mul64_8 and32 or32 xor32 and64 or64 xor64 shl32_run shr32_run shl64_run shr64_run not32 not32' xor32_all w_u32_u8 w_u64_u8 w_i64_u8 w_u8_u32 w_u8_u64 w_u32_u64 w_u64_u32 w_u8_u8 w_u32_u32 w_u64_u64
attribute [local go_sem ↓] run_index_B' add32 sub32 mul32 add64 sub64 mul64 mul64_8 and32 or32 xor32 and64 or64 xor64 shl32_run shr32_run shl64_run shr64_run not32 not32' xor32_all w_u32_u8 w_u64_u8 w_i64_u8 w_u8_u32 w_u8_u64 w_u32_u64 w_u64_u32 w_u8_u8 w_u32_u32 w_u64_u64 w_u64_nat w_u32_nat w_u8_nat
set_option maxRecDepth 4000
section
variable {G : List (Nat × Array Value)}
abbrev rdC (l : List UInt8) (bad : Bool) : List AV := [sA l, .v (.bool bad)]
abbrev rdH (l : List UInt8) (bad : Bool) : List (Option AO) := [some (.cells 92 (rdC l bad))]
theorem newReader_fc (l : List UInt8) : FC Tryd.prog G 36 [sA l] [] (.ptr 0 0) (rdH l false) := by
  refine FC.of_wp [2] Tryd.func36 rfl rfl rfl rfl ⟨trivial, trivial⟩ trivial (by exact Nat.le_of_ble_eq_true rfl) ?_
  intro A hG hnA hAB
  unfold start
  refine WP.rs hG ?_
  refine Ch.asg rfl rfl ?_
  refine Ch.nil ?_
  refine WP.rs hG ?_
  refine Ch.mv rfl rfl ?_
  refine Ch.pup gdN (by repeat (first | exact EvP.nil | (apply EvP.cons; exact rfl))) (OpS.build (cs := rdC l false) rfl rfl rfl rfl rfl (by rfl)) rfl ?_
  refine Ch.al gdN (by exact ⟨rfl, trivial⟩) (OpS.box 0 rfl) (by first | exact trivial | exact ⟨rfl, trivial⟩) (by first | exact trivial | exact ⟨rfl, trivial⟩ | exact ⟨rfl, rfl, trivial⟩) rfl ?_
  refine Ch.asg rfl rfl ?_
  refine Ch.nil ?_
  refine WP.ret ?_
  refine (Ret.of (rs := [2]) (vs := [.ptr 0 0]) (H' := rdH l false) (res := .ptr 0 0) [0] ?_ ?_ rfl ?_ (by simp only [List.length_cons, List.length_nil]; decide) ?_).1
  · exact (fun i hi => by rw [hnA] at hi; simp only [List.length_cons, List.length_nil] at hi ⊢; first | exact absurd hi (Nat.not_lt_zero _) | (revert i; decide))
  · (repeat (first | exact trivial | (refine And.intro ⟨(by first | trivial | (simp; first | done | fail) | exact ⟨trivial, hbel _⟩), _, rfl, (by first | exact .rfl _ | exact .nil | exact .of_eq (by simp; first | done | fail) | exact AV.wk.sh (by simp; first | done | fail) | exact .untip _ _ _)⟩ ?_)))
  · (repeat (first | exact trivial | refine HFromL.skip ?_ | (refine And.intro ⟨(by first | trivial | (simp; first | done | fail) | exact ⟨trivial, hbel _⟩), (by first | rfl | (simp; first | done | fail))⟩ ?_)))
  · rfl
theorem cut_fc (l : List UInt8) (n : Nat) (hn : n ≤ l.length) (hl : l.length ≤ 9223372036854775807) : FC Tryd.prog G 62 [.ptr 0 0, .v (.int .i64 (n : Int))] (rdH l false) (sA (l.take n)) (rdH (l.drop n) false) := by
  refine FC.of_wp [4] Tryd.func62 rfl rfl rfl rfl ⟨rfl, trivial, trivial⟩ ⟨⟨trivial, trivial, trivial⟩, trivial⟩ (by exact Nat.le_of_ble_eq_true rfl) ?_
  intro A hG hnA hAB
  unfold start
  refine WP.rs hG ?_
  refine Ch.asg rfl rfl ?_
  refine Ch.nil ?_
  refine WP.seq ?_
  refine WP.rs hG ?_
  refine Ch.mv rfl rfl ?_
  refine Ch.mv rfl rfl ?_
  refine Ch.pu gdN (by exact ⟨rfl, trivial⟩) (OpS.nilCheckP) trivial rfl ?_
  refine Ch.pu gdN (by exact ⟨rfl, trivial⟩) (OpS.fieldAddr rfl rfl rfl rfl) trivial rfl ?_
  refine Ch.pu gdN (by exact ⟨rfl, trivial⟩) (OpS.loadP rfl rfl rfl) ⟨rfl, trivial⟩ rfl ?_
  refine Ch.mv rfl rfl ?_
  refine Ch.pu (by exact gdT rfl rfl) (by exact ⟨rfl, trivial⟩) (OpS.move) trivial rfl ?_
  refine Ch.pu (by exact gdT rfl rfl) (by exact ⟨rfl, trivial⟩) (OpS.move) trivial rfl ?_
  refine Ch.pu (by exact gdT rfl rfl) (by exact ⟨rfl, trivial⟩) (OpS.nilCheckP) trivial rfl ?_
  refine Ch.pu (by exact gdT rfl rfl) (by exact ⟨rfl, trivial⟩) (OpS.fieldAddr rfl rfl rfl rfl) trivial rfl ?_
  refine Ch.pu (by exact gdT rfl rfl) (by exact ⟨rfl, trivial⟩) (OpS.loadP rfl rfl rfl) ⟨rfl, trivial⟩ rfl ?_
  refine Ch.pu (by exact gdT rfl rfl) (by exact ⟨rfl, trivial⟩) (OpS.lenS rfl) trivial rfl ?_
  refine Ch.pu (by exact gdT rfl rfl) (by exact ⟨rfl, rfl, trivial⟩) (OpS.int (v' := .bool false) rfl (by exact congrArg Value.bool (decide_eq_false (by omega)))) trivial rfl ?_
  refine Ch.pu gdN (by first | exact ⟨rfl, rfl, trivial⟩ | exact ⟨rfl, rfl, rfl, trivial⟩) (OpS.pickF) trivial rfl ?_
  refine Ch.pu gdN (by exact ⟨rfl, trivial⟩) (OpS.nilCheckP) trivial rfl ?_
  refine Ch.pu gdN (by exact ⟨rfl, trivial⟩) (OpS.fieldAddr rfl rfl rfl rfl) trivial rfl ?_
  refine Ch.wr gdN (by exact ⟨rfl, rfl, trivial⟩) (OpS.storeP (cs := rdC l false) rfl rfl rfl (by simp)) (by first | exact trivial | exact ⟨rfl, trivial⟩) (by first | exact trivial | exact ⟨rfl, trivial⟩ | exact ⟨rfl, rfl, trivial⟩) ?_
  refine Ch.nil ?_
  refine WP.rs hG ?_
  refine Ch.mv rfl rfl ?_
  refine Ch.pu gdN (by exact ⟨rfl, trivial⟩) (OpS.nilCheckP) trivial rfl ?_
  refine Ch.pu gdN (by exact ⟨rfl, trivial⟩) (OpS.fieldAddr rfl rfl rfl rfl) trivial rfl ?_
  refine Ch.pu gdN (by exact ⟨rfl, trivial⟩) (OpS.loadP rfl rfl rfl) ⟨rfl, trivial⟩ rfl ?_
  refine Ch.nil ?_
  refine WP.cond_false rfl ?_
  refine WP.skip ?_
  refine WP.rs hG ?_
  refine Ch.mv rfl rfl ?_
  refine Ch.pu gdN (by exact ⟨rfl, trivial⟩) (OpS.nilCheckP) trivial rfl ?_
  refine Ch.pu gdN (by exact ⟨rfl, trivial⟩) (OpS.fieldAddr rfl rfl rfl rfl) trivial rfl ?_
  refine Ch.pu gdN (by exact ⟨rfl, trivial⟩) (OpS.loadP rfl rfl rfl) ⟨rfl, trivial⟩ rfl ?_
  refine Ch.mv rfl rfl ?_
  refine Ch.pu gdN (by exact ⟨rfl, rfl, trivial⟩) (OpS.sliceSh (l := l) rfl (by with_reducible exact Int.toNat_natCast _) (by omega) (by omega)) trivial rfl ?_
  refine Ch.asg rfl rfl ?_
  refine Ch.nil ?_
  refine WP.rs hG ?_
  refine Ch.mv rfl rfl ?_
  refine Ch.mv rfl rfl ?_
  refine Ch.pu gdN (by exact ⟨rfl, trivial⟩) (OpS.nilCheckP) trivial rfl ?_
  refine Ch.pu gdN (by exact ⟨rfl, trivial⟩) (OpS.fieldAddr rfl rfl rfl rfl) trivial rfl ?_
  refine Ch.pu gdN (by exact ⟨rfl, trivial⟩) (OpS.loadP rfl rfl rfl) ⟨rfl, trivial⟩ rfl ?_
  refine Ch.mv rfl rfl ?_
  refine Ch.pu gdN (by exact ⟨rfl, rfl, trivial⟩) (OpS.sliceSl (l := l) rfl (by with_reducible exact Int.toNat_natCast _) (by omega) (by omega)) trivial rfl ?_
  refine Ch.pu gdN (by exact ⟨rfl, trivial⟩) (OpS.nilCheckP) trivial rfl ?_
  refine Ch.pu gdN (by exact ⟨rfl, trivial⟩) (OpS.fieldAddr rfl rfl rfl rfl) trivial rfl ?_
  refine Ch.wr gdN (by exact ⟨rfl, rfl, trivial⟩) (OpS.storeP (cs := rdC l false) rfl rfl rfl (by simp)) (by first | exact trivial | exact ⟨rfl, trivial⟩) (by first | exact trivial | exact ⟨rfl, trivial⟩ | exact ⟨rfl, rfl, trivial⟩) ?_
  refine Ch.nil ?_
  refine WP.rs hG ?_
  refine Ch.mv rfl rfl ?_
  refine Ch.asg rfl rfl ?_
  refine Ch.nil ?_
  refine WP.ret ?_
  refine (Ret.of (rs := [4]) (vs := [sA (l.take n)]) (H' := rdH (l.drop n) false) (res := sA (l.take n)) [0] ?_ ?_ rfl ?_ (by simp only [List.length_cons, List.length_nil]; decide) ?_).1
  · exact (fun i hi => by rw [hnA] at hi; simp only [List.length_cons, List.length_nil] at hi ⊢; first | exact absurd hi (Nat.not_lt_zero _) | (revert i; decide))
  · (repeat (first | exact trivial | (refine And.intro ⟨(by first | trivial | (simp; first | done | fail) | exact ⟨trivial, hbel _⟩), _, rfl, (by first | exact .rfl _ | exact .nil | exact .of_eq (by simp; first | done | fail) | exact AV.wk.sh (by simp; first | done | fail) | exact .untip _ _ _)⟩ ?_)))
  · (repeat (first | exact trivial | refine HFromL.skip ?_ | (refine And.intro ⟨(by first | trivial | (simp; first | done | fail) | exact ⟨trivial, hbel _⟩), (by first | rfl | (simp; first | done | fail))⟩ ?_)))
  · rfl
theorem cutB_fc (l : List UInt8) (n : Int) : FC Tryd.prog G 62 [.ptr 0 0, .v (.int .i64 n)] (rdH l true) (sA []) (rdH l true) := by
  refine FC.of_wp [4] Tryd.func62 rfl rfl rfl rfl ⟨rfl, trivial, trivial⟩ ⟨⟨trivial, trivial, trivial⟩, trivial⟩ (by exact Nat.le_of_ble_eq_true rfl) ?_
  intro A hG hnA hAB
  unfold start
  refine WP.rs hG ?_
  refine Ch.asg rfl rfl ?_
  refine Ch.nil ?_
  refine WP.seq ?_
  refine WP.rs hG ?_
  refine Ch.mv rfl rfl ?_
  refine Ch.mv rfl rfl ?_
  refine Ch.pu gdN (by exact ⟨rfl, trivial⟩) (OpS.nilCheckP) trivial rfl ?_
  refine Ch.pu gdN (by exact ⟨rfl, trivial⟩) (OpS.fieldAddr rfl rfl rfl rfl) trivial rfl ?_
  refine Ch.pu gdN (by exact ⟨rfl, trivial⟩) (OpS.loadP rfl rfl rfl) ⟨rfl, trivial⟩ rfl ?_
  refine Ch.mv rfl rfl ?_
  refine Ch.skU (gdF rfl rfl rfl) rfl ?_
  refine Ch.skU (gdF rfl rfl rfl) rfl ?_
  refine Ch.skU (gdF rfl rfl rfl) rfl ?_
  refine Ch.skU (gdF rfl rfl rfl) rfl ?_
  refine Ch.skU (gdF rfl rfl rfl) rfl ?_
  refine Ch.skU (gdF rfl rfl rfl) rfl ?_
  refine Ch.skU (gdF rfl rfl rfl) rfl ?_
  refine Ch.pu gdN (by first | exact ⟨rfl, rfl, trivial⟩ | exact ⟨rfl, rfl, rfl, trivial⟩) (OpS.pickT) trivial rfl ?_
  refine Ch.pu gdN (by exact ⟨rfl, trivial⟩) (OpS.nilCheckP) trivial rfl ?_
  refine Ch.pu gdN (by exact ⟨rfl, trivial⟩) (OpS.fieldAddr rfl rfl rfl rfl) trivial rfl ?_
  refine Ch.wr gdN (by exact ⟨rfl, rfl, trivial⟩) (OpS.storeP (cs := rdC l true) rfl rfl rfl (by simp)) (by first | exact trivial | exact ⟨rfl, trivial⟩) (by first | exact trivial | exact ⟨rfl, trivial⟩ | exact ⟨rfl, rfl, trivial⟩) ?_
  refine Ch.nil ?_
  refine WP.rs hG ?_
  refine Ch.mv rfl rfl ?_
  refine Ch.pu gdN (by exact ⟨rfl, trivial⟩) (OpS.nilCheckP) trivial rfl ?_
  refine Ch.pu gdN (by exact ⟨rfl, trivial⟩) (OpS.fieldAddr rfl rfl rfl rfl) trivial rfl ?_
  refine Ch.pu gdN (by exact ⟨rfl, trivial⟩) (OpS.loadP rfl rfl rfl) ⟨rfl, trivial⟩ rfl ?_
  refine Ch.nil ?_
  refine WP.cond rfl ?_ ?_
  · intro ht
    skip
    refine WP.rs hG ?_
    refine Ch.asg rfl rfl ?_
    refine Ch.nil ?_
    refine WP.ret ?_
    refine (Ret.of (rs := [4]) (vs := [sA []]) (H' := rdH l true) (res := sA []) [0] ?_ ?_ rfl ?_ (by simp only [List.length_cons, List.length_nil]; decide) ?_).1
    · exact (fun i hi => by rw [hnA] at hi; simp only [List.length_cons, List.length_nil] at hi ⊢; first | exact absurd hi (Nat.not_lt_zero _) | (revert i; decide))
    · (repeat (first | exact trivial | (refine And.intro ⟨(by first | trivial | (simp; first | done | fail) | exact ⟨trivial, hbel _⟩), _, rfl, (by first | exact .rfl _ | exact .nil | exact .of_eq (by simp; first | done | fail) | exact AV.wk.sh (by simp; first | done | fail) | exact .untip _ _ _)⟩ ?_)))
    · (repeat (first | exact trivial | refine HFromL.skip ?_ | (refine And.intro ⟨(by first | trivial | (simp; first | done | fail) | exact ⟨trivial, hbel _⟩), (by first | rfl | (simp; first | done | fail))⟩ ?_)))
    · rfl
  · intro ht
    cases ht
    done
theorem cvalue_fc (l : List UInt8) (hl : l.length ≤ 1000) : FC Tryd.prog G 63 [sA l] [] (.v (.int .u64 (U64 (valU l)))) [] := by
  refine FC.of_wp [2] Tryd.func63 rfl rfl rfl rfl ⟨trivial, trivial⟩ trivial (by exact Nat.le_of_ble_eq_true rfl) ?_
  intro A hG hnA hAB
  unfold start
  refine WP.rs hG ?_
  refine Ch.asg rfl rfl ?_
  refine Ch.nil ?_
  refine WP.seq ?_
  refine WP.rs hG ?_
  refine Ch.mv rfl rfl ?_
  refine Ch.pu gdN (by exact ⟨rfl, trivial⟩) (OpS.s2b (l := l) rfl rfl rfl (by unfold maxLen; omega)) (by first | exact trivial | exact ⟨rfl, trivial⟩) rfl ?_
  refine Ch.pu gdN (by exact ⟨rfl, trivial⟩) (OpS.len rfl) trivial rfl ?_
  refine Ch.mv rfl rfl ?_
  refine Ch.nil ?_
  refine WP.block ?_
  refine WP.loop (fun k σ => ∃ m : Nat, m + k = l.length ∧ σ = ⟨18, ls [(2, .v (.int .u64 (U64 (valU (l.take m))))), (6, .sl none l.length (l.map bA)), (7, .v (.int .i64 (l.length : Int))), (8, .v (.int .i64 (m : Int)))], lh [], blt 0⟩) (l.length) (Ent.of [] ?_ ?_ ?_ ?_).se ⟨0, by omega, rfl⟩ ?_
  · exact (fun i hi => by rw [hnA] at hi; simp only [List.length_cons, List.length_nil] at hi ⊢; first | exact absurd hi (Nat.not_lt_zero _) | (revert i; decide))
  · (repeat (first | exact trivial | (refine And.intro ⟨(by first | trivial | (simp; first | done | fail) | exact ⟨trivial, hbel _⟩), _, rfl, (by first | exact .rfl _ | exact .nil | exact .of_eq (by simp; first | done | fail) | exact AV.wk.sh (by simp; first | done | fail) | exact .untip _ _ _)⟩ ?_)))
  · (repeat (first | exact trivial | (refine And.intro ⟨rfl, (by first | trivial | (simp; first | done | fail) | exact ⟨trivial, hbel _⟩), (by first | rfl | (simp; first | done | fail))⟩ ?_)))
  · simp [rn]
  · rintro k σ ⟨m, hm, rfl⟩
    refine WP.rs hG ?_
    refine Ch.pu gdN (by exact ⟨rfl, rfl, trivial⟩) (OpS.int rfl (by first | exact wr64 (by omega) | exact rfl)) trivial rfl ?_
    refine Ch.nil ?_
    refine WP.seq ?_
    refine WP.cond rfl ?_ ?_
    · intro ht
      have ht' := of_decide_eq_true ht
      have hml : m < l.length := by omega
      have hv := valU_succ l m hml
      refine WP.skip ?_
      refine WP.seq ?_
      refine WP.block ?_
      refine WP.rs hG ?_
      refine Ch.pu gdN (by exact ⟨rfl, rfl, trivial⟩) (OpS.indexM rfl rfl rfl (by first | with_reducible exact Int.toNat_natCast _ | with_reducible exact tnLit _ _ | with_reducible exact tnLitA _ _ | with_reducible exact tnL _ | with_reducible exact tnA _ _ | with_reducible exact tnM _ _ | with_reducible exact tnMA _ _ _ | exact rfl) (by omega) (by omega) (by first | rfl | (simp; done) | omega)) trivial rfl ?_
      refine Ch.pu gdN (by exact ⟨rfl, trivial⟩) (OpS.loadS rfl rfl) trivial rfl ?_
      refine Ch.asg rfl rfl ?_
      refine Ch.nil ?_
      refine WP.rg hG ?_
      refine Ch.mv rfl rfl ?_
      refine Ch.pu gdN (by exact ⟨rfl, rfl, trivial⟩) (OpS.shl_u64 (j := 8) (by decide) (by omega)) (by first | exact trivial | exact ⟨rfl, trivial⟩) rfl ?_
      refine Ch.mv rfl rfl ?_
      refine Ch.pu gdN (by exact ⟨rfl, trivial⟩) (OpS.conv rfl rfl (by first | exact cv_u32_u8 _ | exact cv_u64_u8 _ | exact cv_i64_u8 _ | exact cv_u8_u32 _ | exact cv_u8_u64 _ | exact cv_u32_u64 _ | exact cv_u64_u32 _ | exact cv_u8_u8 _ | exact cv_u32_u32 _ | exact cv_u64_u64 _ | exact wr64 (by omega) | exact cv_u64_nat _ | exact cv_u32_nat _ | exact cv_u8_nat _ | exact rfl)) trivial rfl ?_
      refine Ch.pu gdN (by exact ⟨rfl, rfl, trivial⟩) (OpS.or_u64) (by first | exact trivial | exact ⟨rfl, trivial⟩) rfl ?_
      refine Ch.asg rfl rfl ?_
      refine Ch.nil ?_
      refine WP.rg hG ?_
      refine Ch.pu gdN (by exact ⟨rfl, rfl, trivial⟩) (OpS.int rfl (by first | exact wr64 (by omega) | exact rfl)) trivial rfl ?_
      refine Ch.mv rfl rfl ?_
      refine Ch.nil ?_
      refine ⟨k - 1, _, by omega, (Ent.of [] ?_ ?_ ?_ ?_).se, m + 1, by omega, rfl⟩
      · exact (fun i hi => by rw [hnA] at hi; simp only [List.length_cons, List.length_nil] at hi ⊢; first | exact absurd hi (Nat.not_lt_zero _) | (revert i; decide))
      · (repeat (first | exact trivial | (refine And.intro ⟨(by first | trivial | (simp; first | done | fail) | exact ⟨trivial, hbel _⟩), _, rfl, (by first | exact .rfl _ | exact .nil | exact .of_eq (by simp [hv, el, hml]; first | done | fail) | exact AV.wk.sh (by simp [hv, el, hml]; first | done | fail) | exact .untip _ _ _)⟩ ?_)))
      · (repeat (first | exact trivial | (refine And.intro ⟨rfl, (by first | trivial | (simp; first | done | fail) | exact ⟨trivial, hbel _⟩), (by first | rfl | (simp [hv, el, hml]; first | done | fail))⟩ ?_)))
      · simp [rn]
    · intro ht
      have ht' := of_decide_eq_false ht
      obtain rfl : m = l.length := by omega
      rw [List.take_length]
      refine WP.exit ?_
      refine WP.ret (Ret.one rfl (by first | exact .rfl _ | exact .nil | exact .of_eq (by simp; first | done | fail) | exact AV.wk.sh (by simp; first | done | fail) | exact .untip _ _ _) (by first | trivial | simp [AV.bel]) hnA)
theorem rNum_fc (l : List UInt8) (h8 : 8 ≤ l.length) (hl : l.length ≤ 9223372036854775807) : FC Tryd.prog G 37 [.ptr 0 0] (rdH l false) (.v (.int .u64 (U64 (valU (l.take 8))))) (rdH (l.drop 8) false) := by
  have hc := cut_fc (G := G) l 8 h8 hl
  have hv := cvalue_fc (G := G) (l.take 8) (by rw [List.length_take]; omega)
  refine FC.of_wp [2] Tryd.func37 rfl rfl rfl rfl ⟨rfl, trivial⟩ ⟨⟨trivial, trivial, trivial⟩, trivial⟩ (by exact Nat.le_of_ble_eq_true rfl) ?_
  intro A hG hnA hAB
  unfold start
  refine WP.rs hG ?_
  refine Ch.asg rfl rfl ?_
  refine Ch.nil ?_
  refine WP.rs hG ?_
  refine Ch.mv rfl rfl ?_
  refine Ch.callH (FC.split (hc)) [0] 1 gdN (by repeat (first | exact EvL.nil | (apply EvL.cons; exact rfl))) (by exact (And.intro (by first | exact .rfl _ | exact .untip _ _ _ | exact .nil | exact .func _ | exact AV.wk.sh (renL_s _ _) | exact AV.wk.tip rfl (by first | exact renL_b _ _ | exact renL_s _ _ | exact renL_i _ _ | exact renL_w _ _) | exact AV.wk.sh (by simp; first | done | fail)) (And.intro (by first | exact .rfl _ | exact .untip _ _ _ | exact .nil | exact .func _ | exact AV.wk.sh (renL_s _ _) | exact AV.wk.tip rfl (by first | exact renL_b _ _ | exact renL_s _ _ | exact renL_i _ _ | exact renL_w _ _) | exact AV.wk.sh (by simp; first | done | fail)) trivial))) rfl rfl (by decide) (by decide) (by first | ((conv => lhs; simp only [AV.ren, AV.renL, AO.ren, renL_b, renL_s, renL_w, renL_i, renL_append, ren_b, ren_s, ren_w, ren_i, pi_n, pi_0, pi_s, pi_1, pi_2, pi_3, pi_4, chOld, chNew, nuNew, hpl, Option.map_some, Option.map_none, List.length_cons, List.length_nil, List.take_succ_cons, List.take_zero, List.take_nil, List.drop_succ_cons, List.drop_zero, List.drop_nil, List.cons_append, List.nil_append, Nat.zero_add, Nat.add_zero, Nat.reduceAdd]); all_goals rfl) | rfl) (by first | ((conv => lhs; simp only [AV.ren, AV.renL, AO.ren, renL_b, renL_s, renL_w, renL_i, renL_append, ren_b, ren_s, ren_w, ren_i, pi_n, pi_0, pi_s, pi_1, pi_2, pi_3, pi_4, chOld, chNew, nuNew, hpl, Option.map_some, Option.map_none, List.length_cons, List.length_nil, List.take_succ_cons, List.take_zero, List.take_nil, List.drop_succ_cons, List.drop_zero, List.drop_nil, List.cons_append, List.nil_append, Nat.zero_add, Nat.add_zero, Nat.reduceAdd]); all_goals rfl) | rfl) (by first | ((conv => lhs; simp only [AV.ren, AV.renL, AO.ren, renL_b, renL_s, renL_w, renL_i, renL_append, ren_b, ren_s, ren_w, ren_i, pi_n, pi_0, pi_s, pi_1, pi_2, pi_3, pi_4, chOld, chNew, nuNew, hpl, Option.map_some, Option.map_none, List.length_cons, List.length_nil, List.take_succ_cons, List.take_zero, List.take_nil, List.drop_succ_cons, List.drop_zero, List.drop_nil, List.cons_append, List.nil_append, Nat.zero_add, Nat.add_zero, Nat.reduceAdd]); all_goals rfl) | rfl) (by first | ((conv => lhs; simp only [AV.ren, AV.renL, AO.ren, renL_b, renL_s, renL_w, renL_i, renL_append, ren_b, ren_s, ren_w, ren_i, pi_n, pi_0, pi_s, pi_1, pi_2, pi_3, pi_4, chOld, chNew, nuNew, hpl, Option.map_some, Option.map_none, List.length_cons, List.length_nil, List.take_succ_cons, List.take_zero, List.take_nil, List.drop_succ_cons, List.drop_zero, List.drop_nil, List.cons_append, List.nil_append, Nat.zero_add, Nat.add_zero, Nat.reduceAdd]); all_goals rfl) | rfl) (by first | exact trivial | exact ⟨rfl, trivial⟩ | exact ⟨rfl, rfl, trivial⟩ | exact ⟨rfl, rfl, rfl, trivial⟩ | exact ⟨rfl, rfl, rfl, rfl, trivial⟩) (by first | exact trivial | exact ⟨rfl, trivial⟩ | exact ⟨rfl, rfl, trivial⟩ | exact ⟨rfl, rfl, rfl, trivial⟩ | exact ⟨rfl, rfl, rfl, rfl, trivial⟩) rfl ?_
  refine Ch.asg rfl rfl ?_
  refine Ch.nil ?_
  refine WP.seq ?_
  refine WP.rs hG ?_
  refine Ch.mv rfl rfl ?_
  refine Ch.pu gdN (by exact ⟨rfl, trivial⟩) (OpS.nilCheckP) trivial rfl ?_
  refine Ch.pu gdN (by exact ⟨rfl, trivial⟩) (OpS.fieldAddr rfl rfl rfl rfl) trivial rfl ?_
  refine Ch.pu gdN (by exact ⟨rfl, trivial⟩) (OpS.loadP rfl rfl rfl) ⟨rfl, trivial⟩ rfl ?_
  refine Ch.nil ?_
  refine WP.cond_false rfl ?_
  refine WP.skip ?_
  refine WP.rs hG ?_
  refine Ch.mv rfl rfl ?_
  refine Ch.callP (hv) gdN (by repeat (first | exact EvL.nil | (apply EvL.cons; exact rfl))) (by exact (And.intro (by first | exact .rfl _ | exact .untip _ _ _ | exact .nil | exact .func _ | exact AV.wk.sh (renL_s _ _) | exact AV.wk.sh (by simp; first | done | fail)) trivial)) (by rfl) rfl ?_
  refine Ch.asg rfl rfl ?_
  refine Ch.nil ?_
  refine WP.ret ?_
  refine (Ret.of (rs := [2]) (vs := [.v (.int .u64 (U64 (valU (l.take 8))))]) (H' := rdH (l.drop 8) false) (res := .v (.int .u64 (U64 (valU (l.take 8))))) [0] ?_ ?_ rfl ?_ (by simp only [List.length_cons, List.length_nil]; decide) ?_).1
  · exact (fun i hi => by rw [hnA] at hi; simp only [List.length_cons, List.length_nil] at hi ⊢; first | exact absurd hi (Nat.not_lt_zero _) | (revert i; decide))
  · (repeat (first | exact trivial | (refine And.intro ⟨(by first | trivial | (simp; first | done | fail) | exact ⟨trivial, hbel _⟩), _, rfl, (by first | exact .rfl _ | exact .nil | exact .of_eq (by simp; first | done | fail) | exact AV.wk.sh (by simp; first | done | fail) | exact .untip _ _ _)⟩ ?_)))
  · (repeat (first | exact trivial | refine HFromL.skip ?_ | (refine And.intro ⟨(by first | trivial | (simp; first | done | fail) | exact ⟨trivial, hbel _⟩), (by first | rfl | (simp; first | done | fail))⟩ ?_)))
  · rfl
theorem rTextB_fc (l : List UInt8) (m most : Nat) (h4 : 4 ≤ l.length) (hl : l.length ≤ 9223372036854775807) (hm : (valU (l.take 4)).toNat = m) (hmb : m ≤ 4294967296) (hmo : most < m) :
    FC Tryd.prog G 39 [.ptr 0 0, .v (.int .i64 (most : Int))] (rdH l false) (sA []) (rdH (l.drop 4) true) := by
  have hc := cut_fc (G := G) l 4 h4 hl
  have hv := cvalue_fc (G := G) (l.take 4) (by rw [List.length_take]; omega)
  have hU : U64 (valU (l.take 4)) = (m : Int) := by unfold U64; rw [hm]
  rw [hU] at hv
  have hc2 := cutB_fc (G := G) (l.drop 4) (m : Int)
  refine FC.of_wp [4] Tryd.func39 rfl rfl rfl rfl ⟨rfl, trivial, trivial⟩ ⟨⟨trivial, trivial, trivial⟩, trivial⟩ (by exact Nat.le_of_ble_eq_true rfl) ?_
  intro A hG hnA hAB
  unfold start
  refine WP.rs hG ?_
  refine Ch.asg rfl rfl ?_
  refine Ch.nil ?_
  refine WP.rs hG ?_
  refine Ch.mv rfl rfl ?_
  refine Ch.callH (FC.split (hc)) [0] 1 gdN (by repeat (first | exact EvL.nil | (apply EvL.cons; exact rfl))) (by exact (And.intro (by first | exact .rfl _ | exact .untip _ _ _ | exact .nil | exact .func _ | exact AV.wk.sh (renL_s _ _) | exact AV.wk.tip rfl (by first | exact renL_b _ _ | exact renL_s _ _ | exact renL_i _ _ | exact renL_w _ _) | exact AV.wk.sh (by simp; first | done | fail)) (And.intro (by first | exact .rfl _ | exact .untip _ _ _ | exact .nil | exact .func _ | exact AV.wk.sh (renL_s _ _) | exact AV.wk.tip rfl (by first | exact renL_b _ _ | exact renL_s _ _ | exact renL_i _ _ | exact renL_w _ _) | exact AV.wk.sh (by simp; first | done | fail)) trivial))) rfl rfl (by decide) (by decide) (by first | ((conv => lhs; simp only [AV.ren, AV.renL, AO.ren, renL_b, renL_s, renL_w, renL_i, renL_append, ren_b, ren_s, ren_w, ren_i, pi_n, pi_0, pi_s, pi_1, pi_2, pi_3, pi_4, chOld, chNew, nuNew, hpl, Option.map_some, Option.map_none, List.length_cons, List.length_nil, List.take_succ_cons, List.take_zero, List.take_nil, List.drop_succ_cons, List.drop_zero, List.drop_nil, List.cons_append, List.nil_append, Nat.zero_add, Nat.add_zero, Nat.reduceAdd]); all_goals rfl) | rfl) (by first | ((conv => lhs; simp only [AV.ren, AV.renL, AO.ren, renL_b, renL_s, renL_w, renL_i, renL_append, ren_b, ren_s, ren_w, ren_i, pi_n, pi_0, pi_s, pi_1, pi_2, pi_3, pi_4, chOld, chNew, nuNew, hpl, Option.map_some, Option.map_none, List.length_cons, List.length_nil, List.take_succ_cons, List.take_zero, List.take_nil, List.drop_succ_cons, List.drop_zero, List.drop_nil, List.cons_append, List.nil_append, Nat.zero_add, Nat.add_zero, Nat.reduceAdd]); all_goals rfl) | rfl) (by first | ((conv => lhs; simp only [AV.ren, AV.renL, AO.ren, renL_b, renL_s, renL_w, renL_i, renL_append, ren_b, ren_s, ren_w, ren_i, pi_n, pi_0, pi_s, pi_1, pi_2, pi_3, pi_4, chOld, chNew, nuNew, hpl, Option.map_some, Option.map_none, List.length_cons, List.length_nil, List.take_succ_cons, List.take_zero, List.take_nil, List.drop_succ_cons, List.drop_zero, List.drop_nil, List.cons_append, List.nil_append, Nat.zero_add, Nat.add_zero, Nat.reduceAdd]); all_goals rfl) | rfl) (by first | ((conv => lhs; simp only [AV.ren, AV.renL, AO.ren, renL_b, renL_s, renL_w, renL_i, renL_append, ren_b, ren_s, ren_w, ren_i, pi_n, pi_0, pi_s, pi_1, pi_2, pi_3, pi_4, chOld, chNew, nuNew, hpl, Option.map_some, Option.map_none, List.length_cons, List.length_nil, List.take_succ_cons, List.take_zero, List.take_nil, List.drop_succ_cons, List.drop_zero, List.drop_nil, List.cons_append, List.nil_append, Nat.zero_add, Nat.add_zero, Nat.reduceAdd]); all_goals rfl) | rfl) (by first | exact trivial | exact ⟨rfl, trivial⟩ | exact ⟨rfl, rfl, trivial⟩ | exact ⟨rfl, rfl, rfl, trivial⟩ | exact ⟨rfl, rfl, rfl, rfl, trivial⟩) (by first | exact trivial | exact ⟨rfl, trivial⟩ | exact ⟨rfl, rfl, trivial⟩ | exact ⟨rfl, rfl, rfl, trivial⟩ | exact ⟨rfl, rfl, rfl, rfl, trivial⟩) rfl ?_
  refine Ch.asg rfl rfl ?_
  refine Ch.nil ?_
  refine WP.seq ?_
  refine WP.rs hG ?_
  refine Ch.mv rfl rfl ?_
  refine Ch.pu gdN (by exact ⟨rfl, trivial⟩) (OpS.nilCheckP) trivial rfl ?_
  refine Ch.pu gdN (by exact ⟨rfl, trivial⟩) (OpS.fieldAddr rfl rfl rfl rfl) trivial rfl ?_
  refine Ch.pu gdN (by exact ⟨rfl, trivial⟩) (OpS.loadP rfl rfl rfl) ⟨rfl, trivial⟩ rfl ?_
  refine Ch.nil ?_
  refine WP.cond_false rfl ?_
  refine WP.skip ?_
  refine WP.rs hG ?_
  refine Ch.mv rfl rfl ?_
  refine Ch.callP (hv) gdN (by repeat (first | exact EvL.nil | (apply EvL.cons; exact rfl))) (by exact (And.intro (by first | exact .rfl _ | exact .untip _ _ _ | exact .nil | exact .func _ | exact AV.wk.sh (renL_s _ _) | exact AV.wk.sh (by simp; first | done | fail)) trivial)) (by rfl) rfl ?_
  refine Ch.pu gdN (by exact ⟨rfl, trivial⟩) (OpS.conv rfl rfl (by first | exact cv_u32_u8 _ | exact cv_u64_u8 _ | exact cv_i64_u8 _ | exact cv_u8_u32 _ | exact cv_u8_u64 _ | exact cv_u32_u64 _ | exact cv_u64_u32 _ | exact cv_u8_u8 _ | exact cv_u32_u32 _ | exact cv_u64_u64 _ | exact wr64 (by omega) | exact cv_u64_nat _ | exact cv_u32_nat _ | exact cv_u8_nat _ | exact rfl)) trivial rfl ?_
  refine Ch.asg rfl rfl ?_
  refine Ch.nil ?_
  refine WP.seq ?_
  refine WP.rs hG ?_
  refine Ch.mv rfl rfl ?_
  refine Ch.mv rfl rfl ?_
  refine Ch.pu gdN (by exact ⟨rfl, rfl, trivial⟩) (OpS.int (v' := .bool true) rfl (by exact congrArg Value.bool (decide_eq_true (by omega)))) trivial rfl ?_
  refine Ch.nil ?_
  refine WP.cond_true rfl ?_
  refine WP.rg hG ?_
  refine Ch.mv rfl rfl ?_
  refine Ch.pu gdN (by exact ⟨rfl, trivial⟩) (OpS.nilCheckP) trivial rfl ?_
  refine Ch.pu gdN (by exact ⟨rfl, trivial⟩) (OpS.fieldAddr rfl rfl rfl rfl) trivial rfl ?_
  refine Ch.wr gdN (by exact ⟨rfl, rfl, trivial⟩) (OpS.storeP (cs := rdC (l.drop 4) false) rfl rfl rfl (by simp)) (by first | exact trivial | exact ⟨rfl, trivial⟩) (by first | exact trivial | exact ⟨rfl, trivial⟩ | exact ⟨rfl, rfl, trivial⟩) ?_
  refine Ch.nil ?_
  refine WP.rs hG ?_
  refine Ch.mv rfl rfl ?_
  refine Ch.mv rfl rfl ?_
  refine Ch.callH (FC.split (hc2)) [0] 1 gdN (by repeat (first | exact EvL.nil | (apply EvL.cons; exact rfl))) (by exact (And.intro (by first | exact .rfl _ | exact .untip _ _ _ | exact .nil | exact .func _ | exact AV.wk.sh (renL_s _ _) | exact AV.wk.tip rfl (by first | exact renL_b _ _ | exact renL_s _ _ | exact renL_i _ _ | exact renL_w _ _) | exact AV.wk.sh (by simp; first | done | fail)) (And.intro (by first | exact .rfl _ | exact .untip _ _ _ | exact .nil | exact .func _ | exact AV.wk.sh (renL_s _ _) | exact AV.wk.tip rfl (by first | exact renL_b _ _ | exact renL_s _ _ | exact renL_i _ _ | exact renL_w _ _) | exact AV.wk.sh (by simp; first | done | fail)) trivial))) rfl rfl (by decide) (by decide) (by first | ((conv => lhs; simp only [AV.ren, AV.renL, AO.ren, renL_b, renL_s, renL_w, renL_i, renL_append, ren_b, ren_s, ren_w, ren_i, pi_n, pi_0, pi_s, pi_1, pi_2, pi_3, pi_4, chOld, chNew, nuNew, hpl, Option.map_some, Option.map_none, List.length_cons, List.length_nil, List.take_succ_cons, List.take_zero, List.take_nil, List.drop_succ_cons, List.drop_zero, List.drop_nil, List.cons_append, List.nil_append, Nat.zero_add, Nat.add_zero, Nat.reduceAdd]); all_goals rfl) | rfl) (by first | ((conv => lhs; simp only [AV.ren, AV.renL, AO.ren, renL_b, renL_s, renL_w, renL_i, renL_append, ren_b, ren_s, ren_w, ren_i, pi_n, pi_0, pi_s, pi_1, pi_2, pi_3, pi_4, chOld, chNew, nuNew, hpl, Option.map_some, Option.map_none, List.length_cons, List.length_nil, List.take_succ_cons, List.take_zero, List.take_nil, List.drop_succ_cons, List.drop_zero, List.drop_nil, List.cons_append, List.nil_append, Nat.zero_add, Nat.add_zero, Nat.reduceAdd]); all_goals rfl) | rfl) (by first | ((conv => lhs; simp only [AV.ren, AV.renL, AO.ren, renL_b, renL_s, renL_w, renL_i, renL_append, ren_b, ren_s, ren_w, ren_i, pi_n, pi_0, pi_s, pi_1, pi_2, pi_3, pi_4, chOld, chNew, nuNew, hpl, Option.map_some, Option.map_none, List.length_cons, List.length_nil, List.take_succ_cons, List.take_zero, List.take_nil, List.drop_succ_cons, List.drop_zero, List.drop_nil, List.cons_append, List.nil_append, Nat.zero_add, Nat.add_zero, Nat.reduceAdd]); all_goals rfl) | rfl) (by first | ((conv => lhs; simp only [AV.ren, AV.renL, AO.ren, renL_b, renL_s, renL_w, renL_i, renL_append, ren_b, ren_s, ren_w, ren_i, pi_n, pi_0, pi_s, pi_1, pi_2, pi_3, pi_4, chOld, chNew, nuNew, hpl, Option.map_some, Option.map_none, List.length_cons, List.length_nil, List.take_succ_cons, List.take_zero, List.take_nil, List.drop_succ_cons, List.drop_zero, List.drop_nil, List.cons_append, List.nil_append, Nat.zero_add, Nat.add_zero, Nat.reduceAdd]); all_goals rfl) | rfl) (by first | exact trivial | exact ⟨rfl, trivial⟩ | exact ⟨rfl, rfl, trivial⟩ | exact ⟨rfl, rfl, rfl, trivial⟩ | exact ⟨rfl, rfl, rfl, rfl, trivial⟩) (by first | exact trivial | exact ⟨rfl, trivial⟩ | exact ⟨rfl, rfl, trivial⟩ | exact ⟨rfl, rfl, rfl, trivial⟩ | exact ⟨rfl, rfl, rfl, rfl, trivial⟩) rfl ?_
  refine Ch.asg rfl rfl ?_
  refine Ch.nil ?_
  refine WP.ret ?_
  refine (Ret.of (rs := [4]) (vs := [sA []]) (H' := rdH (l.drop 4) true) (res := sA []) [0] ?_ ?_ rfl ?_ (by simp only [List.length_cons, List.length_nil]; decide) ?_).1
  · exact (fun i hi => by rw [hnA] at hi; simp only [List.length_cons, List.length_nil] at hi ⊢; first | exact absurd hi (Nat.not_lt_zero _) | (revert i; decide))
  · (repeat (first | exact trivial | (refine And.intro ⟨(by first | trivial | (simp; first | done | fail) | exact ⟨trivial, hbel _⟩), _, rfl, (by first | exact .rfl _ | exact .nil | exact .of_eq (by simp; first | done | fail) | exact AV.wk.sh (by simp; first | done | fail) | exact .untip _ _ _)⟩ ?_)))
  · (repeat (first | exact trivial | refine HFromL.skip ?_ | (refine And.intro ⟨(by first | trivial | (simp; first | done | fail) | exact ⟨trivial, hbel _⟩), (by first | rfl | (simp; first | done | fail))⟩ ?_)))
  · rfl
theorem wText_fc (l s : List UInt8) (hl : l.length ≤ 70368744177664) (hs' : s.length ≤ 4294967295) :
    FC Tryd.prog G 23 [.ptr 0 0, sA s] (wrH l) (.tup []) [some (.cells 71 [.sl (some 3) (l ++ beS (UInt64.ofNat s.length) 4 ++ s).length ((l ++ beS (UInt64.ofNat s.length) 4 ++ s).map bA)]), none, none, some (.tip 5 1 (l ++ beS (UInt64.ofNat s.length) 4 ++ s).length)] := by
  have hbl := beS_length (UInt64.ofNat s.length) 4
  refine FC.of_wp [] Tryd.func23 rfl rfl rfl rfl ⟨rfl, trivial, trivial⟩ ⟨⟨⟨fun k hk => by cases hk; rfl, belL_b _ _⟩, trivial⟩, trivial, trivial⟩ (by exact Nat.le_of_ble_eq_true rfl) ?_
  intro A hG hnA hAB
  unfold start
  refine WP.rg hG ?_
  refine Ch.mv rfl rfl ?_
  refine Ch.mv rfl rfl ?_
  refine Ch.pu gdN (by exact ⟨rfl, trivial⟩) (OpS.nilCheckP) trivial rfl ?_
  refine Ch.pu gdN (by exact ⟨rfl, trivial⟩) (OpS.fieldAddr rfl rfl rfl rfl) trivial rfl ?_
  refine Ch.pu gdN (by exact ⟨rfl, trivial⟩) (OpS.loadP rfl rfl rfl) ⟨rfl, trivial⟩ rfl ?_
  refine Ch.mv rfl rfl ?_
  refine Ch.pu gdN (by exact ⟨rfl, trivial⟩) (OpS.lenS rfl) trivial rfl ?_
  refine Ch.pu gdN (by exact ⟨rfl, trivial⟩) (OpS.conv rfl rfl (by first | exact cv_u32_u8 _ | exact cv_u64_u8 _ | exact cv_i64_u8 _ | exact cv_u8_u32 _ | exact cv_u8_u64 _ | exact cv_u32_u64 _ | exact cv_u64_u32 _ | exact cv_u8_u8 _ | exact cv_u32_u32 _ | exact cv_u64_u64 _ | exact wr64 (by omega) | exact cv_u64_nat _ | exact cv_u32_nat _ | exact cv_u8_nat _ | exact rfl)) trivial rfl ?_
  refine Ch.callH (FC.split (lay_fc l (UInt64.ofNat s.length) 4 (by decide) (by decide) hl)) [1] 2 gdN (by repeat (first | exact EvL.nil | (apply EvL.cons; exact rfl))) (by exact (And.intro (by first | exact .rfl _ | exact .untip _ _ _ | exact .nil | exact .func _ | exact AV.wk.sh (renL_s _ _) | exact AV.wk.tip rfl (by first | exact renL_b _ _ | exact renL_s _ _ | exact renL_i _ _ | exact renL_w _ _) | exact AV.wk.sh (by simp; first | done | fail)) (And.intro (by first | exact .rfl _ | exact .untip _ _ _ | exact .nil | exact .func _ | exact AV.wk.sh (renL_s _ _) | exact AV.wk.tip rfl (by first | exact renL_b _ _ | exact renL_s _ _ | exact renL_i _ _ | exact renL_w _ _) | exact AV.wk.sh (by simp; first | done | fail)) (And.intro (by first | exact .rfl _ | exact .untip _ _ _ | exact .nil | exact .func _ | exact AV.wk.sh (renL_s _ _) | exact AV.wk.tip rfl (by first | exact renL_b _ _ | exact renL_s _ _ | exact renL_i _ _ | exact renL_w _ _) | exact AV.wk.sh (by simp; first | done | fail)) trivial)))) rfl rfl (by decide) (by decide) (by first | ((conv => lhs; simp only [AV.ren, AV.renL, AO.ren, renL_b, renL_s, renL_w, renL_i, renL_append, ren_b, ren_s, ren_w, ren_i, pi_n, pi_0, pi_s, pi_1, pi_2, pi_3, pi_4, chOld, chNew, nuNew, hpl, Option.map_some, Option.map_none, List.length_cons, List.length_nil, List.take_succ_cons, List.take_zero, List.take_nil, List.drop_succ_cons, List.drop_zero, List.drop_nil, List.cons_append, List.nil_append, Nat.zero_add, Nat.add_zero, Nat.reduceAdd]); all_goals rfl) | rfl) (by first | ((conv => lhs; simp only [AV.ren, AV.renL, AO.ren, renL_b, renL_s, renL_w, renL_i, renL_append, ren_b, ren_s, ren_w, ren_i, pi_n, pi_0, pi_s, pi_1, pi_2, pi_3, pi_4, chOld, chNew, nuNew, hpl, Option.map_some, Option.map_none, List.length_cons, List.length_nil, List.take_succ_cons, List.take_zero, List.take_nil, List.drop_succ_cons, List.drop_zero, List.drop_nil, List.cons_append, List.nil_append, Nat.zero_add, Nat.add_zero, Nat.reduceAdd]); all_goals rfl) | rfl) (by first | ((conv => lhs; simp only [AV.ren, AV.renL, AO.ren, renL_b, renL_s, renL_w, renL_i, renL_append, ren_b, ren_s, ren_w, ren_i, pi_n, pi_0, pi_s, pi_1, pi_2, pi_3, pi_4, chOld, chNew, nuNew, hpl, Option.map_some, Option.map_none, List.length_cons, List.length_nil, List.take_succ_cons, List.take_zero, List.take_nil, List.drop_succ_cons, List.drop_zero, List.drop_nil, List.cons_append, List.nil_append, Nat.zero_add, Nat.add_zero, Nat.reduceAdd]); all_goals rfl) | rfl) (by first | ((conv => lhs; simp only [AV.ren, AV.renL, AO.ren, renL_b, renL_s, renL_w, renL_i, renL_append, ren_b, ren_s, ren_w, ren_i, pi_n, pi_0, pi_s, pi_1, pi_2, pi_3, pi_4, chOld, chNew, nuNew, hpl, Option.map_some, Option.map_none, List.length_cons, List.length_nil, List.take_succ_cons, List.take_zero, List.take_nil, List.drop_succ_cons, List.drop_zero, List.drop_nil, List.cons_append, List.nil_append, Nat.zero_add, Nat.add_zero, Nat.reduceAdd]); all_goals rfl) | rfl) (by first | exact trivial | exact ⟨rfl, trivial⟩ | exact ⟨rfl, rfl, trivial⟩ | exact ⟨rfl, rfl, rfl, trivial⟩ | exact ⟨rfl, rfl, rfl, rfl, trivial⟩) (by first | exact trivial | exact ⟨rfl, trivial⟩ | exact ⟨rfl, rfl, trivial⟩ | exact ⟨rfl, rfl, rfl, trivial⟩ | exact ⟨rfl, rfl, rfl, rfl, trivial⟩) rfl ?_
  refine Ch.mv rfl rfl ?_
  refine Ch.al gdN (by exact ⟨rfl, rfl, trivial⟩) (OpS.append (sz := 1) (bb := 1) 3 rfl rfl rfl rfl rfl (by decide) (SrcA.str rfl _) (by first | (simp; done) | (simp; assumption)) (by simp) (by unfold maxLen; omega) rfl (by omega)) (by first | exact trivial | exact ⟨rfl, trivial⟩) (by first | exact trivial | exact ⟨rfl, trivial⟩ | exact ⟨rfl, rfl, trivial⟩) rfl ?_
  refine Ch.pu gdN (by exact ⟨rfl, trivial⟩) (OpS.nilCheckP) trivial rfl ?_
  refine Ch.pu gdN (by exact ⟨rfl, trivial⟩) (OpS.fieldAddr rfl rfl rfl rfl) trivial rfl ?_
  refine Ch.wr gdN (by exact ⟨rfl, rfl, trivial⟩) (OpS.storeP (cs := [.sl (some 1) l.length (l.map bA)]) rfl rfl rfl (by simp)) (by first | exact trivial | exact ⟨rfl, trivial⟩) (by first | exact trivial | exact ⟨rfl, trivial⟩ | exact ⟨rfl, rfl, trivial⟩) ?_
  refine Ch.nil ?_
  refine (Ret.of (rs := []) (vs := []) (H' := [some (.cells 71 [.sl (some 3) (l ++ beS (UInt64.ofNat s.length) 4 ++ s).length ((l ++ beS (UInt64.ofNat s.length) 4 ++ s).map bA)]), none, none, some (.tip 5 1 (l ++ beS (UInt64.ofNat s.length) 4 ++ s).length)]) (res := .tup []) [0, 1, 2, 3] ?_ ?_ rfl ?_ (by simp only [List.length_cons, List.length_nil]; decide) ?_).2
  · exact (fun i hi => by rw [hnA] at hi; simp only [List.length_cons, List.length_nil] at hi ⊢; first | exact absurd hi (Nat.not_lt_zero _) | (revert i; decide))
  · (repeat (first | exact trivial | (refine And.intro ⟨(by first | trivial | (simp; first | done | fail) | exact ⟨trivial, hbel _⟩), _, rfl, (by first | exact .rfl _ | exact .nil | exact .of_eq (by simp [hbl, Nat.add_assoc]; first | done | fail) | exact AV.wk.sh (by simp [hbl, Nat.add_assoc]; first | done | fail) | exact .untip _ _ _)⟩ ?_)))
  · (repeat (first | exact trivial | refine HFromL.skip ?_ | (refine And.intro ⟨(by first | trivial | (simp; first | done | fail) | exact ⟨trivial, hbel _⟩), (by first | rfl | (simp [hbl, Nat.add_assoc]; first | done | fail) | (conv => rhs; simp only [AO.ren, AV.ren, AV.renL, Option.map_some, hbl, Nat.add_assoc]) <;> rfl)⟩ ?_)))
  · exact ⟨_, rfl, rfl, by simp [ls, TsOk, List.zip, List.zipWith]⟩
theorem rEnd_fc (l : List UInt8) (bad : Bool) : FC Tryd.prog G 40 [.ptr 0 0] (rdH l bad) (.v (.bool (!bad && decide (l = [])))) (rdH l bad) := by
  refine FC.of_wp [2] Tryd.func40 rfl rfl rfl rfl ⟨rfl, trivial⟩ ⟨⟨trivial, trivial, trivial⟩, trivial⟩ (by exact Nat.le_of_ble_eq_true rfl) ?_
  intro A hG hnA hAB
  unfold start
  refine WP.rs hG ?_
  refine Ch.asg rfl rfl ?_
  refine Ch.nil ?_
  have hq : True := trivial
  cases bad
  · have hs := hq
    refine WP.rs hG ?_
    refine Ch.mv rfl rfl ?_
    refine Ch.pu gdN (by exact ⟨rfl, trivial⟩) (OpS.nilCheckP) trivial rfl ?_
    refine Ch.pu gdN (by exact ⟨rfl, trivial⟩) (OpS.fieldAddr rfl rfl rfl rfl) trivial rfl ?_
    refine Ch.pu gdN (by exact ⟨rfl, trivial⟩) (OpS.loadP rfl rfl rfl) ⟨rfl, trivial⟩ rfl ?_
    refine Ch.pu gdN (by exact ⟨rfl, trivial⟩) (OpS.not) trivial rfl ?_
    refine Ch.mv rfl rfl ?_
    refine Ch.pu (by exact gdT rfl rfl) (by exact ⟨rfl, trivial⟩) (OpS.move) trivial rfl ?_
    refine Ch.pu (by exact gdT rfl rfl) (by exact ⟨rfl, trivial⟩) (OpS.nilCheckP) trivial rfl ?_
    refine Ch.pu (by exact gdT rfl rfl) (by exact ⟨rfl, trivial⟩) (OpS.fieldAddr rfl rfl rfl rfl) trivial rfl ?_
    refine Ch.pu (by exact gdT rfl rfl) (by exact ⟨rfl, trivial⟩) (OpS.loadP rfl rfl rfl) ⟨rfl, trivial⟩ rfl ?_
    refine Ch.pu (by exact gdT rfl rfl) (by exact ⟨rfl, rfl, trivial⟩) (OpS.strEqB (c := decide (l = [])) rfl) trivial rfl ?_
    refine Ch.pu gdN (by first | exact ⟨rfl, rfl, trivial⟩ | exact ⟨rfl, rfl, rfl, trivial⟩) (OpS.pickT) trivial rfl ?_
    refine Ch.asg rfl rfl ?_
    refine Ch.nil ?_
    refine WP.ret ?_
    refine (Ret.of (rs := [2]) (vs := [.v (.bool (decide (l = [])))]) (H' := rdH l false) (res := .v (.bool (decide (l = [])))) [0] ?_ ?_ rfl ?_ (by simp only [List.length_cons, List.length_nil]; decide) ?_).1
    · exact (fun i hi => by rw [hnA] at hi; simp only [List.length_cons, List.length_nil] at hi ⊢; first | exact absurd hi (Nat.not_lt_zero _) | (revert i; decide))
    · (repeat (first | exact trivial | (refine And.intro ⟨(by first | trivial | (simp; first | done | fail) | exact ⟨trivial, hbel _⟩), _, rfl, (by first | exact .rfl _ | exact .nil | exact .of_eq (by simp; first | done | fail) | exact AV.wk.sh (by simp; first | done | fail) | exact .untip _ _ _)⟩ ?_)))
    · (repeat (first | exact trivial | refine HFromL.skip ?_ | (refine And.intro ⟨(by first | trivial | (simp; first | done | fail) | exact ⟨trivial, hbel _⟩), (by first | rfl | (simp; first | done | fail))⟩ ?_)))
    · rfl
  · have hs := hq
    refine WP.rs hG ?_
    refine Ch.mv rfl rfl ?_
    refine Ch.pu gdN (by exact ⟨rfl, trivial⟩) (OpS.nilCheckP) trivial rfl ?_
    refine Ch.pu gdN (by exact ⟨rfl, trivial⟩) (OpS.fieldAddr rfl rfl rfl rfl) trivial rfl ?_
    refine Ch.pu gdN (by exact ⟨rfl, trivial⟩) (OpS.loadP rfl rfl rfl) ⟨rfl, trivial⟩ rfl ?_
    refine Ch.pu gdN (by exact ⟨rfl, trivial⟩) (OpS.not) trivial rfl ?_
    refine Ch.mv rfl rfl ?_
    refine Ch.skU (gdF rfl rfl rfl) rfl ?_
    refine Ch.skU (gdF rfl rfl rfl) rfl ?_
    refine Ch.skU (gdF rfl rfl rfl) rfl ?_
    refine Ch.skU (gdF rfl rfl rfl) rfl ?_
    refine Ch.skU (gdF rfl rfl rfl) rfl ?_
    refine Ch.pu gdN (by first | exact ⟨rfl, rfl, trivial⟩ | exact ⟨rfl, rfl, rfl, trivial⟩) (OpS.pickF) trivial rfl ?_
    refine Ch.asg rfl rfl ?_
    refine Ch.nil ?_
    refine WP.ret ?_
    refine (Ret.of (rs := [2]) (vs := [.v (.bool false)]) (H' := rdH l true) (res := .v (.bool false)) [0] ?_ ?_ rfl ?_ (by simp only [List.length_cons, List.length_nil]; decide) ?_).1
    · exact (fun i hi => by rw [hnA] at hi; simp only [List.length_cons, List.length_nil] at hi ⊢; first | exact absurd hi (Nat.not_lt_zero _) | (revert i; decide))
    · (repeat (first | exact trivial | (refine And.intro ⟨(by first | trivial | (simp; first | done | fail) | exact ⟨trivial, hbel _⟩), _, rfl, (by first | exact .rfl _ | exact .nil | exact .of_eq (by simp; first | done | fail) | exact AV.wk.sh (by simp; first | done | fail) | exact .untip _ _ _)⟩ ?_)))
    · (repeat (first | exact trivial | refine HFromL.skip ?_ | (refine And.intro ⟨(by first | trivial | (simp; first | done | fail) | exact ⟨trivial, hbel _⟩), (by first | rfl | (simp; first | done | fail))⟩ ?_)))
    · rfl
theorem cutS_fc (l : List UInt8) (n : Nat) (hn : l.length < n) : FC Tryd.prog G 62 [.ptr 0 0, .v (.int .i64 (n : Int))] (rdH l false) (sA []) (rdH l true) := by
  refine FC.of_wp [4] Tryd.func62 rfl rfl rfl rfl ⟨rfl, trivial, trivial⟩ ⟨⟨trivial, trivial, trivial⟩, trivial⟩ (by exact Nat.le_of_ble_eq_true rfl) ?_
  intro A hG hnA hAB
  unfold start
  refine WP.rs hG ?_
  refine Ch.asg rfl rfl ?_
  refine Ch.nil ?_
  refine WP.seq ?_
  refine WP.rs hG ?_
  refine Ch.mv rfl rfl ?_
  refine Ch.mv rfl rfl ?_
  refine Ch.pu gdN (by exact ⟨rfl, trivial⟩) (OpS.nilCheckP) trivial rfl ?_
  refine Ch.pu gdN (by exact ⟨rfl, trivial⟩) (OpS.fieldAddr rfl rfl rfl rfl) trivial rfl ?_
  refine Ch.pu gdN (by exact ⟨rfl, trivial⟩) (OpS.loadP rfl rfl rfl) ⟨rfl, trivial⟩ rfl ?_
  refine Ch.mv rfl rfl ?_
  refine Ch.pu (by exact gdT rfl rfl) (by exact ⟨rfl, trivial⟩) (OpS.move) trivial rfl ?_
  refine Ch.pu (by exact gdT rfl rfl) (by exact ⟨rfl, trivial⟩) (OpS.move) trivial rfl ?_
  refine Ch.pu (by exact gdT rfl rfl) (by exact ⟨rfl, trivial⟩) (OpS.nilCheckP) trivial rfl ?_
  refine Ch.pu (by exact gdT rfl rfl) (by exact ⟨rfl, trivial⟩) (OpS.fieldAddr rfl rfl rfl rfl) trivial rfl ?_
  refine Ch.pu (by exact gdT rfl rfl) (by exact ⟨rfl, trivial⟩) (OpS.loadP rfl rfl rfl) ⟨rfl, trivial⟩ rfl ?_
  refine Ch.pu (by exact gdT rfl rfl) (by exact ⟨rfl, trivial⟩) (OpS.lenS rfl) trivial rfl ?_
  refine Ch.pu (by exact gdT rfl rfl) (by exact ⟨rfl, rfl, trivial⟩) (OpS.int (op := .gtr) (v' := .bool true) rfl (by exact congrArg Value.bool (decide_eq_true (by omega)))) trivial rfl ?_
  refine Ch.pu gdN (by first | exact ⟨rfl, rfl, trivial⟩ | exact ⟨rfl, rfl, rfl, trivial⟩) (OpS.pickF) trivial rfl ?_
  refine Ch.pu gdN (by exact ⟨rfl, trivial⟩) (OpS.nilCheckP) trivial rfl ?_
  refine Ch.pu gdN (by exact ⟨rfl, trivial⟩) (OpS.fieldAddr rfl rfl rfl rfl) trivial rfl ?_
  refine Ch.wr gdN (by exact ⟨rfl, rfl, trivial⟩) (OpS.storeP (cs := rdC l false) rfl rfl rfl (by simp)) (by first | exact trivial | exact ⟨rfl, trivial⟩) (by first | exact trivial | exact ⟨rfl, trivial⟩ | exact ⟨rfl, rfl, trivial⟩) ?_
  refine Ch.nil ?_
  refine WP.rs hG ?_
  refine Ch.mv rfl rfl ?_
  refine Ch.pu gdN (by exact ⟨rfl, trivial⟩) (OpS.nilCheckP) trivial rfl ?_
  refine Ch.pu gdN (by exact ⟨rfl, trivial⟩) (OpS.fieldAddr rfl rfl rfl rfl) trivial rfl ?_
  refine Ch.pu gdN (by exact ⟨rfl, trivial⟩) (OpS.loadP rfl rfl rfl) ⟨rfl, trivial⟩ rfl ?_
  refine Ch.nil ?_
  refine WP.cond_true rfl ?_
  refine WP.rs hG ?_
  refine Ch.asg rfl rfl ?_
  refine Ch.nil ?_
  refine WP.ret ?_
  refine (Ret.of (rs := [4]) (vs := [sA []]) (H' := rdH l true) (res := sA []) [0] ?_ ?_ rfl ?_ (by simp only [List.length_cons, List.length_nil]; decide) ?_).1
  · exact (fun i hi => by rw [hnA] at hi; simp only [List.length_cons, List.length_nil] at hi ⊢; first | exact absurd hi (Nat.not_lt_zero _) | (revert i; decide))
  · (repeat (first | exact trivial | (refine And.intro ⟨(by first | trivial | (simp; first | done | fail) | exact ⟨trivial, hbel _⟩), _, rfl, (by first | exact .rfl _ | exact .nil | exact .of_eq (by simp; first | done | fail) | exact AV.wk.sh (by simp; first | done | fail) | exact .untip _ _ _)⟩ ?_)))
  · (repeat (first | exact trivial | refine HFromL.skip ?_ | (refine And.intro ⟨(by first | trivial | (simp; first | done | fail) | exact ⟨trivial, hbel _⟩), (by first | rfl | (simp; first | done | fail))⟩ ?_)))
  · rfl
theorem cutX_fc (r : List UInt8 × Bool) (n : Nat) (hl : r.1.length ≤ 9223372036854775807) : FC Tryd.prog G 62 [.ptr 0 0, .v (.int .i64 (n : Int))] (rdH r.1 r.2) (sA (rdCut n r).1) (rdH (rdCut n r).2.1 (rdCut n r).2.2) := by
  obtain ⟨l, b⟩ := r
  cases b with
  | true => rw [rdCut_bad]; exact cutB_fc l n
  | false =>
    rcases Nat.lt_or_ge l.length n with h | h
    · rw [rdCut_short h]; exact cutS_fc l n h
    · rw [rdCut_fit h]; exact cut_fc l n h hl
theorem rNumB_fc (l : List UInt8) (b : Bool) (hl : l.length ≤ 9223372036854775807) (hb : (rdCut 8 (l, b)).2.2 = true) : FC Tryd.prog G 37 [.ptr 0 0] (rdH l b) (.v (.int .u64 (U64 0))) (rdH (rdCut 8 (l, b)).2.1 true) := by
  have hc := cutX_fc (G := G) (l, b) 8 hl
  rw [hb] at hc
  refine FC.of_wp [2] Tryd.func37 rfl rfl rfl rfl ⟨rfl, trivial⟩ ⟨⟨trivial, trivial, trivial⟩, trivial⟩ (by exact Nat.le_of_ble_eq_true rfl) ?_
  intro A hG hnA hAB
  unfold start
  refine WP.rs hG ?_
  refine Ch.asg rfl rfl ?_
  refine Ch.nil ?_
  refine WP.rs hG ?_
  refine Ch.mv rfl rfl ?_
  refine Ch.callH (FC.split (hc)) [0] 1 gdN (by repeat (first | exact EvL.nil | (apply EvL.cons; exact rfl))) (by exact (And.intro (by first | exact .rfl _ | exact .untip _ _ _ | exact .nil | exact .func _ | exact AV.wk.sh (renL_s _ _) | exact AV.wk.tip rfl (by first | exact renL_b _ _ | exact renL_s _ _ | exact renL_i _ _ | exact renL_w _ _) | exact AV.wk.sh (by simp; first | done | fail)) (And.intro (by first | exact .rfl _ | exact .untip _ _ _ | exact .nil | exact .func _ | exact AV.wk.sh (renL_s _ _) | exact AV.wk.tip rfl (by first | exact renL_b _ _ | exact renL_s _ _ | exact renL_i _ _ | exact renL_w _ _) | exact AV.wk.sh (by simp; first | done | fail)) trivial))) rfl rfl (by decide) (by decide) (by first | ((conv => lhs; simp only [AV.ren, AV.renL, AO.ren, renL_b, renL_s, renL_w, renL_i, renL_append, ren_b, ren_s, ren_w, ren_i, pi_n, pi_0, pi_s, pi_1, pi_2, pi_3, pi_4, chOld, chNew, nuNew, hpl, Option.map_some, Option.map_none, List.length_cons, List.length_nil, List.take_succ_cons, List.take_zero, List.take_nil, List.drop_succ_cons, List.drop_zero, List.drop_nil, List.cons_append, List.nil_append, Nat.zero_add, Nat.add_zero, Nat.reduceAdd]); all_goals rfl) | rfl) (by first | ((conv => lhs; simp only [AV.ren, AV.renL, AO.ren, renL_b, renL_s, renL_w, renL_i, renL_append, ren_b, ren_s, ren_w, ren_i, pi_n, pi_0, pi_s, pi_1, pi_2, pi_3, pi_4, chOld, chNew, nuNew, hpl, Option.map_some, Option.map_none, List.length_cons, List.length_nil, List.take_succ_cons, List.take_zero, List.take_nil, List.drop_succ_cons, List.drop_zero, List.drop_nil, List.cons_append, List.nil_append, Nat.zero_add, Nat.add_zero, Nat.reduceAdd]); all_goals rfl) | rfl) (by first | ((conv => lhs; simp only [AV.ren, AV.renL, AO.ren, renL_b, renL_s, renL_w, renL_i, renL_append, ren_b, ren_s, ren_w, ren_i, pi_n, pi_0, pi_s, pi_1, pi_2, pi_3, pi_4, chOld, chNew, nuNew, hpl, Option.map_some, Option.map_none, List.length_cons, List.length_nil, List.take_succ_cons, List.take_zero, List.take_nil, List.drop_succ_cons, List.drop_zero, List.drop_nil, List.cons_append, List.nil_append, Nat.zero_add, Nat.add_zero, Nat.reduceAdd]); all_goals rfl) | rfl) (by first | ((conv => lhs; simp only [AV.ren, AV.renL, AO.ren, renL_b, renL_s, renL_w, renL_i, renL_append, ren_b, ren_s, ren_w, ren_i, pi_n, pi_0, pi_s, pi_1, pi_2, pi_3, pi_4, chOld, chNew, nuNew, hpl, Option.map_some, Option.map_none, List.length_cons, List.length_nil, List.take_succ_cons, List.take_zero, List.take_nil, List.drop_succ_cons, List.drop_zero, List.drop_nil, List.cons_append, List.nil_append, Nat.zero_add, Nat.add_zero, Nat.reduceAdd]); all_goals rfl) | rfl) (by first | exact trivial | exact ⟨rfl, trivial⟩ | exact ⟨rfl, rfl, trivial⟩ | exact ⟨rfl, rfl, rfl, trivial⟩ | exact ⟨rfl, rfl, rfl, rfl, trivial⟩) (by first | exact trivial | exact ⟨rfl, trivial⟩ | exact ⟨rfl, rfl, trivial⟩ | exact ⟨rfl, rfl, rfl, trivial⟩ | exact ⟨rfl, rfl, rfl, rfl, trivial⟩) rfl ?_
  refine Ch.asg rfl rfl ?_
  refine Ch.nil ?_
  refine WP.seq ?_
  refine WP.rs hG ?_
  refine Ch.mv rfl rfl ?_
  refine Ch.pu gdN (by exact ⟨rfl, trivial⟩) (OpS.nilCheckP) trivial rfl ?_
  refine Ch.pu gdN (by exact ⟨rfl, trivial⟩) (OpS.fieldAddr rfl rfl rfl rfl) trivial rfl ?_
  refine Ch.pu gdN (by exact ⟨rfl, trivial⟩) (OpS.loadP rfl rfl rfl) ⟨rfl, trivial⟩ rfl ?_
  refine Ch.nil ?_
  refine WP.cond_true rfl ?_
  refine WP.rs hG ?_
  refine Ch.asg rfl rfl ?_
  refine Ch.nil ?_
  refine WP.ret ?_
  refine (Ret.of (rs := [2]) (vs := [.v (.int .u64 (U64 0))]) (H' := rdH (rdCut 8 (l, b)).2.1 true) (res := .v (.int .u64 (U64 0))) [0] ?_ ?_ rfl ?_ (by simp only [List.length_cons, List.length_nil]; decide) ?_).1
  · exact (fun i hi => by rw [hnA] at hi; simp only [List.length_cons, List.length_nil] at hi ⊢; first | exact absurd hi (Nat.not_lt_zero _) | (revert i; decide))
  · (repeat (first | exact trivial | (refine And.intro ⟨(by first | trivial | (simp; first | done | fail) | exact ⟨trivial, hbel _⟩), _, rfl, (by first | exact .rfl _ | exact .nil | exact .of_eq (by simp; first | done | fail) | exact AV.wk.sh (by simp; first | done | fail) | exact .untip _ _ _)⟩ ?_)))
  · (repeat (first | exact trivial | refine HFromL.skip ?_ | (refine And.intro ⟨(by first | trivial | (simp; first | done | fail) | exact ⟨trivial, hbel _⟩), (by first | rfl | (simp; first | done | fail))⟩ ?_)))
  · rfl
theorem rNumX_fc (r : List UInt8 × Bool) (hl : r.1.length ≤ 9223372036854775807) : FC Tryd.prog G 37 [.ptr 0 0] (rdH r.1 r.2) (.v (.int .u64 (U64 (rdNum r).1))) (rdH (rdNum r).2.1 (rdNum r).2.2) := by
  obtain ⟨l, b⟩ := r
  unfold rdNum
  cases hb : (rdCut 8 (l, b)).2.2 with
  | true => rw [if_pos rfl]; exact rNumB_fc l b hl hb
  | false =>
    obtain ⟨h1, h2, h3⟩ := rdCut_ok hb
    cases h1
    rw [h3, if_neg (by decide)]
    exact rNum_fc l h2 hl
theorem rTextC_fc (l : List UInt8) (b : Bool) (most : Int) (hl : l.length ≤ 9223372036854775807) (hb : (rdCut 4 (l, b)).2.2 = true) : FC Tryd.prog G 39 [.ptr 0 0, .v (.int .i64 most)] (rdH l b) (sA []) (rdH (rdCut 4 (l, b)).2.1 true) := by
  have hc := cutX_fc (G := G) (l, b) 4 hl
  rw [hb] at hc
  refine FC.of_wp [4] Tryd.func39 rfl rfl rfl rfl ⟨rfl, trivial, trivial⟩ ⟨⟨trivial, trivial, trivial⟩, trivial⟩ (by exact Nat.le_of_ble_eq_true rfl) ?_
  intro A hG hnA hAB
  unfold start
  refine WP.rs hG ?_
  refine Ch.asg rfl rfl ?_
  refine Ch.nil ?_
  refine WP.rs hG ?_
  refine Ch.mv rfl rfl ?_
  refine Ch.callH (FC.split (hc)) [0] 1 gdN (by repeat (first | exact EvL.nil | (apply EvL.cons; exact rfl))) (by exact (And.intro (by first | exact .rfl _ | exact .untip _ _ _ | exact .nil | exact .func _ | exact AV.wk.sh (renL_s _ _) | exact AV.wk.tip rfl (by first | exact renL_b _ _ | exact renL_s _ _ | exact renL_i _ _ | exact renL_w _ _) | exact AV.wk.sh (by simp; first | done | fail)) (And.intro (by first | exact .rfl _ | exact .untip _ _ _ | exact .nil | exact .func _ | exact AV.wk.sh (renL_s _ _) | exact AV.wk.tip rfl (by first | exact renL_b _ _ | exact renL_s _ _ | exact renL_i _ _ | exact renL_w _ _) | exact AV.wk.sh (by simp; first | done | fail)) trivial))) rfl rfl (by decide) (by decide) (by first | ((conv => lhs; simp only [AV.ren, AV.renL, AO.ren, renL_b, renL_s, renL_w, renL_i, renL_append, ren_b, ren_s, ren_w, ren_i, pi_n, pi_0, pi_s, pi_1, pi_2, pi_3, pi_4, chOld, chNew, nuNew, hpl, Option.map_some, Option.map_none, List.length_cons, List.length_nil, List.take_succ_cons, List.take_zero, List.take_nil, List.drop_succ_cons, List.drop_zero, List.drop_nil, List.cons_append, List.nil_append, Nat.zero_add, Nat.add_zero, Nat.reduceAdd]); all_goals rfl) | rfl) (by first | ((conv => lhs; simp only [AV.ren, AV.renL, AO.ren, renL_b, renL_s, renL_w, renL_i, renL_append, ren_b, ren_s, ren_w, ren_i, pi_n, pi_0, pi_s, pi_1, pi_2, pi_3, pi_4, chOld, chNew, nuNew, hpl, Option.map_some, Option.map_none, List.length_cons, List.length_nil, List.take_succ_cons, List.take_zero, List.take_nil, List.drop_succ_cons, List.drop_zero, List.drop_nil, List.cons_append, List.nil_append, Nat.zero_add, Nat.add_zero, Nat.reduceAdd]); all_goals rfl) | rfl) (by first | ((conv => lhs; simp only [AV.ren, AV.renL, AO.ren, renL_b, renL_s, renL_w, renL_i, renL_append, ren_b, ren_s, ren_w, ren_i, pi_n, pi_0, pi_s, pi_1, pi_2, pi_3, pi_4, chOld, chNew, nuNew, hpl, Option.map_some, Option.map_none, List.length_cons, List.length_nil, List.take_succ_cons, List.take_zero, List.take_nil, List.drop_succ_cons, List.drop_zero, List.drop_nil, List.cons_append, List.nil_append, Nat.zero_add, Nat.add_zero, Nat.reduceAdd]); all_goals rfl) | rfl) (by first | ((conv => lhs; simp only [AV.ren, AV.renL, AO.ren, renL_b, renL_s, renL_w, renL_i, renL_append, ren_b, ren_s, ren_w, ren_i, pi_n, pi_0, pi_s, pi_1, pi_2, pi_3, pi_4, chOld, chNew, nuNew, hpl, Option.map_some, Option.map_none, List.length_cons, List.length_nil, List.take_succ_cons, List.take_zero, List.take_nil, List.drop_succ_cons, List.drop_zero, List.drop_nil, List.cons_append, List.nil_append, Nat.zero_add, Nat.add_zero, Nat.reduceAdd]); all_goals rfl) | rfl) (by first | exact trivial | exact ⟨rfl, trivial⟩ | exact ⟨rfl, rfl, trivial⟩ | exact ⟨rfl, rfl, rfl, trivial⟩ | exact ⟨rfl, rfl, rfl, rfl, trivial⟩) (by first | exact trivial | exact ⟨rfl, trivial⟩ | exact ⟨rfl, rfl, trivial⟩ | exact ⟨rfl, rfl, rfl, trivial⟩ | exact ⟨rfl, rfl, rfl, rfl, trivial⟩) rfl ?_
  refine Ch.asg rfl rfl ?_
  refine Ch.nil ?_
  refine WP.seq ?_
  refine WP.rs hG ?_
  refine Ch.mv rfl rfl ?_
  refine Ch.pu gdN (by exact ⟨rfl, trivial⟩) (OpS.nilCheckP) trivial rfl ?_
  refine Ch.pu gdN (by exact ⟨rfl, trivial⟩) (OpS.fieldAddr rfl rfl rfl rfl) trivial rfl ?_
  refine Ch.pu gdN (by exact ⟨rfl, trivial⟩) (OpS.loadP rfl rfl rfl) ⟨rfl, trivial⟩ rfl ?_
  refine Ch.nil ?_
  refine WP.cond_true rfl ?_
  refine WP.rs hG ?_
  refine Ch.asg rfl rfl ?_
  refine Ch.nil ?_
  refine WP.ret ?_
  refine (Ret.of (rs := [4]) (vs := [sA []]) (H' := rdH (rdCut 4 (l, b)).2.1 true) (res := sA []) [0] ?_ ?_ rfl ?_ (by simp only [List.length_cons, List.length_nil]; decide) ?_).1
  · exact (fun i hi => by rw [hnA] at hi; simp only [List.length_cons, List.length_nil] at hi ⊢; first | exact absurd hi (Nat.not_lt_zero _) | (revert i; decide))
  · (repeat (first | exact trivial | (refine And.intro ⟨(by first | trivial | (simp; first | done | fail) | exact ⟨trivial, hbel _⟩), _, rfl, (by first | exact .rfl _ | exact .nil | exact .of_eq (by simp; first | done | fail) | exact AV.wk.sh (by simp; first | done | fail) | exact .untip _ _ _)⟩ ?_)))
  · (repeat (first | exact trivial | refine HFromL.skip ?_ | (refine And.intro ⟨(by first | trivial | (simp; first | done | fail) | exact ⟨trivial, hbel _⟩), (by first | rfl | (simp; first | done | fail))⟩ ?_)))
  · rfl
theorem rTextS_fc (l : List UInt8) (m most : Nat) (h4 : 4 ≤ l.length) (hl : l.length ≤ 9223372036854775807) (hm : (valU (l.take 4)).toNat = m) (hmb : m ≤ 4294967296) (hmo : m ≤ most) (hb : most ≤ 4294967296) :
    FC Tryd.prog G 39 [.ptr 0 0, .v (.int .i64 (most : Int))] (rdH l false) (sA (rdCut m (l.drop 4, false)).1) (rdH (rdCut m (l.drop 4, false)).2.1 (rdCut m (l.drop 4, false)).2.2) := by
  have hc := cut_fc (G := G) l 4 h4 hl
  have hv := cvalue_fc (G := G) (l.take 4) (by rw [List.length_take]; omega)
  have hU : U64 (valU (l.take 4)) = (m : Int) := by unfold U64; rw [hm]
  rw [hU] at hv
  have hc2 := cutX_fc (G := G) (l.drop 4, false) m (by show (l.drop 4).length ≤ _; rw [List.length_drop]; omega)
  refine FC.of_wp [4] Tryd.func39 rfl rfl rfl rfl ⟨rfl, trivial, trivial⟩ ⟨⟨trivial, trivial, trivial⟩, trivial⟩ (by exact Nat.le_of_ble_eq_true rfl) ?_
  intro A hG hnA hAB
  unfold start
  refine WP.rs hG ?_
  refine Ch.asg rfl rfl ?_
  refine Ch.nil ?_
  refine WP.rs hG ?_
  refine Ch.mv rfl rfl ?_
  refine Ch.callH (FC.split (hc)) [0] 1 gdN (by repeat (first | exact EvL.nil | (apply EvL.cons; exact rfl))) (by exact (And.intro (by first | exact .rfl _ | exact .untip _ _ _ | exact .nil | exact .func _ | exact AV.wk.sh (renL_s _ _) | exact AV.wk.tip rfl (by first | exact renL_b _ _ | exact renL_s _ _ | exact renL_i _ _ | exact renL_w _ _) | exact AV.wk.sh (by simp; first | done | fail)) (And.intro (by first | exact .rfl _ | exact .untip _ _ _ | exact .nil | exact .func _ | exact AV.wk.sh (renL_s _ _) | exact AV.wk.tip rfl (by first | exact renL_b _ _ | exact renL_s _ _ | exact renL_i _ _ | exact renL_w _ _) | exact AV.wk.sh (by simp; first | done | fail)) trivial))) rfl rfl (by decide) (by decide) (by first | ((conv => lhs; simp only [AV.ren, AV.renL, AO.ren, renL_b, renL_s, renL_w, renL_i, renL_append, ren_b, ren_s, ren_w, ren_i, pi_n, pi_0, pi_s, pi_1, pi_2, pi_3, pi_4, chOld, chNew, nuNew, hpl, Option.map_some, Option.map_none, List.length_cons, List.length_nil, List.take_succ_cons, List.take_zero, List.take_nil, List.drop_succ_cons, List.drop_zero, List.drop_nil, List.cons_append, List.nil_append, Nat.zero_add, Nat.add_zero, Nat.reduceAdd]); all_goals rfl) | rfl) (by first | ((conv => lhs; simp only [AV.ren, AV.renL, AO.ren, renL_b, renL_s, renL_w, renL_i, renL_append, ren_b, ren_s, ren_w, ren_i, pi_n, pi_0, pi_s, pi_1, pi_2, pi_3, pi_4, chOld, chNew, nuNew, hpl, Option.map_some, Option.map_none, List.length_cons, List.length_nil, List.take_succ_cons, List.take_zero, List.take_nil, List.drop_succ_cons, List.drop_zero, List.drop_nil, List.cons_append, List.nil_append, Nat.zero_add, Nat.add_zero, Nat.reduceAdd]); all_goals rfl) | rfl) (by first | ((conv => lhs; simp only [AV.ren, AV.renL, AO.ren, renL_b, renL_s, renL_w, renL_i, renL_append, ren_b, ren_s, ren_w, ren_i, pi_n, pi_0, pi_s, pi_1, pi_2, pi_3, pi_4, chOld, chNew, nuNew, hpl, Option.map_some, Option.map_none, List.length_cons, List.length_nil, List.take_succ_cons, List.take_zero, List.take_nil, List.drop_succ_cons, List.drop_zero, List.drop_nil, List.cons_append, List.nil_append, Nat.zero_add, Nat.add_zero, Nat.reduceAdd]); all_goals rfl) | rfl) (by first | ((conv => lhs; simp only [AV.ren, AV.renL, AO.ren, renL_b, renL_s, renL_w, renL_i, renL_append, ren_b, ren_s, ren_w, ren_i, pi_n, pi_0, pi_s, pi_1, pi_2, pi_3, pi_4, chOld, chNew, nuNew, hpl, Option.map_some, Option.map_none, List.length_cons, List.length_nil, List.take_succ_cons, List.take_zero, List.take_nil, List.drop_succ_cons, List.drop_zero, List.drop_nil, List.cons_append, List.nil_append, Nat.zero_add, Nat.add_zero, Nat.reduceAdd]); all_goals rfl) | rfl) (by first | exact trivial | exact ⟨rfl, trivial⟩ | exact ⟨rfl, rfl, trivial⟩ | exact ⟨rfl, rfl, rfl, trivial⟩ | exact ⟨rfl, rfl, rfl, rfl, trivial⟩) (by first | exact trivial | exact ⟨rfl, trivial⟩ | exact ⟨rfl, rfl, trivial⟩ | exact ⟨rfl, rfl, rfl, trivial⟩ | exact ⟨rfl, rfl, rfl, rfl, trivial⟩) rfl ?_
  refine Ch.asg rfl rfl ?_
  refine Ch.nil ?_
  refine WP.seq ?_
  refine WP.rs hG ?_
  refine Ch.mv rfl rfl ?_
  refine Ch.pu gdN (by exact ⟨rfl, trivial⟩) (OpS.nilCheckP) trivial rfl ?_
  refine Ch.pu gdN (by exact ⟨rfl, trivial⟩) (OpS.fieldAddr rfl rfl rfl rfl) trivial rfl ?_
  refine Ch.pu gdN (by exact ⟨rfl, trivial⟩) (OpS.loadP rfl rfl rfl) ⟨rfl, trivial⟩ rfl ?_
  refine Ch.nil ?_
  refine WP.cond_false rfl ?_
  refine WP.skip ?_
  refine WP.rs hG ?_
  refine Ch.mv rfl rfl ?_
  refine Ch.callP (hv) gdN (by repeat (first | exact EvL.nil | (apply EvL.cons; exact rfl))) (by exact (And.intro (by first | exact .rfl _ | exact .untip _ _ _ | exact .nil | exact .func _ | exact AV.wk.sh (renL_s _ _) | exact AV.wk.sh (by simp; first | done | fail)) trivial)) (by rfl) rfl ?_
  refine Ch.pu gdN (by exact ⟨rfl, trivial⟩) (OpS.conv rfl rfl (by first | exact cv_u32_u8 _ | exact cv_u64_u8 _ | exact cv_i64_u8 _ | exact cv_u8_u32 _ | exact cv_u8_u64 _ | exact cv_u32_u64 _ | exact cv_u64_u32 _ | exact cv_u8_u8 _ | exact cv_u32_u32 _ | exact cv_u64_u64 _ | exact wr64 (by omega) | exact cv_u64_nat _ | exact cv_u32_nat _ | exact cv_u8_nat _ | exact rfl)) trivial rfl ?_
  refine Ch.asg rfl rfl ?_
  refine Ch.nil ?_
  refine WP.seq ?_
  refine WP.rs hG ?_
  refine Ch.mv rfl rfl ?_
  refine Ch.mv rfl rfl ?_
  refine Ch.pu gdN (by exact ⟨rfl, rfl, trivial⟩) (OpS.int (v' := .bool false) rfl (by exact congrArg Value.bool (decide_eq_false (by omega)))) trivial rfl ?_
  refine Ch.nil ?_
  refine WP.cond_false rfl ?_
  refine WP.skip ?_
  refine WP.rs hG ?_
  refine Ch.mv rfl rfl ?_
  refine Ch.mv rfl rfl ?_
  refine Ch.callH (FC.split (hc2)) [0] 1 gdN (by repeat (first | exact EvL.nil | (apply EvL.cons; exact rfl))) (by exact (And.intro (by first | exact .rfl _ | exact .untip _ _ _ | exact .nil | exact .func _ | exact AV.wk.sh (renL_s _ _) | exact AV.wk.tip rfl (by first | exact renL_b _ _ | exact renL_s _ _ | exact renL_i _ _ | exact renL_w _ _) | exact AV.wk.sh (by simp; first | done | fail)) (And.intro (by first | exact .rfl _ | exact .untip _ _ _ | exact .nil | exact .func _ | exact AV.wk.sh (renL_s _ _) | exact AV.wk.tip rfl (by first | exact renL_b _ _ | exact renL_s _ _ | exact renL_i _ _ | exact renL_w _ _) | exact AV.wk.sh (by simp; first | done | fail)) trivial))) rfl rfl (by decide) (by decide) (by first | ((conv => lhs; simp only [AV.ren, AV.renL, AO.ren, renL_b, renL_s, renL_w, renL_i, renL_append, ren_b, ren_s, ren_w, ren_i, pi_n, pi_0, pi_s, pi_1, pi_2, pi_3, pi_4, chOld, chNew, nuNew, hpl, Option.map_some, Option.map_none, List.length_cons, List.length_nil, List.take_succ_cons, List.take_zero, List.take_nil, List.drop_succ_cons, List.drop_zero, List.drop_nil, List.cons_append, List.nil_append, Nat.zero_add, Nat.add_zero, Nat.reduceAdd]); all_goals rfl) | rfl) (by first | ((conv => lhs; simp only [AV.ren, AV.renL, AO.ren, renL_b, renL_s, renL_w, renL_i, renL_append, ren_b, ren_s, ren_w, ren_i, pi_n, pi_0, pi_s, pi_1, pi_2, pi_3, pi_4, chOld, chNew, nuNew, hpl, Option.map_some, Option.map_none, List.length_cons, List.length_nil, List.take_succ_cons, List.take_zero, List.take_nil, List.drop_succ_cons, List.drop_zero, List.drop_nil, List.cons_append, List.nil_append, Nat.zero_add, Nat.add_zero, Nat.reduceAdd]); all_goals rfl) | rfl) (by first | ((conv => lhs; simp only [AV.ren, AV.renL, AO.ren, renL_b, renL_s, renL_w, renL_i, renL_append, ren_b, ren_s, ren_w, ren_i, pi_n, pi_0, pi_s, pi_1, pi_2, pi_3, pi_4, chOld, chNew, nuNew, hpl, Option.map_some, Option.map_none, List.length_cons, List.length_nil, List.take_succ_cons, List.take_zero, List.take_nil, List.drop_succ_cons, List.drop_zero, List.drop_nil, List.cons_append, List.nil_append, Nat.zero_add, Nat.add_zero, Nat.reduceAdd]); all_goals rfl) | rfl) (by first | ((conv => lhs; simp only [AV.ren, AV.renL, AO.ren, renL_b, renL_s, renL_w, renL_i, renL_append, ren_b, ren_s, ren_w, ren_i, pi_n, pi_0, pi_s, pi_1, pi_2, pi_3, pi_4, chOld, chNew, nuNew, hpl, Option.map_some, Option.map_none, List.length_cons, List.length_nil, List.take_succ_cons, List.take_zero, List.take_nil, List.drop_succ_cons, List.drop_zero, List.drop_nil, List.cons_append, List.nil_append, Nat.zero_add, Nat.add_zero, Nat.reduceAdd]); all_goals rfl) | rfl) (by first | exact trivial | exact ⟨rfl, trivial⟩ | exact ⟨rfl, rfl, trivial⟩ | exact ⟨rfl, rfl, rfl, trivial⟩ | exact ⟨rfl, rfl, rfl, rfl, trivial⟩) (by first | exact trivial | exact ⟨rfl, trivial⟩ | exact ⟨rfl, rfl, trivial⟩ | exact ⟨rfl, rfl, rfl, trivial⟩ | exact ⟨rfl, rfl, rfl, rfl, trivial⟩) rfl ?_
  refine Ch.asg rfl rfl ?_
  refine Ch.nil ?_
  refine WP.ret ?_
  refine (Ret.of (rs := [4]) (vs := [sA (rdCut m (l.drop 4, false)).1]) (H' := rdH (rdCut m (l.drop 4, false)).2.1 (rdCut m (l.drop 4, false)).2.2) (res := sA (rdCut m (l.drop 4, false)).1) [0] ?_ ?_ rfl ?_ (by simp only [List.length_cons, List.length_nil]; decide) ?_).1
  · exact (fun i hi => by rw [hnA] at hi; simp only [List.length_cons, List.length_nil] at hi ⊢; first | exact absurd hi (Nat.not_lt_zero _) | (revert i; decide))
  · (repeat (first | exact trivial | (refine And.intro ⟨(by first | trivial | (simp; first | done | fail) | exact ⟨trivial, hbel _⟩), _, rfl, (by first | exact .rfl _ | exact .nil | exact .of_eq (by simp; first | done | fail) | exact AV.wk.sh (by simp; first | done | fail) | exact .untip _ _ _)⟩ ?_)))
  · (repeat (first | exact trivial | refine HFromL.skip ?_ | (refine And.intro ⟨(by first | trivial | (simp; first | done | fail) | exact ⟨trivial, hbel _⟩), (by first | rfl | (simp; first | done | fail))⟩ ?_)))
  · rfl
theorem rTextX_fc (r : List UInt8 × Bool) (most : Nat) (hl : r.1.length ≤ 9223372036854775807) (hb : most ≤ 4294967296) : FC Tryd.prog G 39 [.ptr 0 0, .v (.int .i64 (most : Int))] (rdH r.1 r.2) (sA (rdText most r).1) (rdH (rdText most r).2.1 (rdText most r).2.2) := by
  obtain ⟨l, b⟩ := r
  unfold rdText
  cases hb' : (rdCut 4 (l, b)).2.2 with
  | true =>
    rw [if_pos rfl]
    have := rTextC_fc (G := G) l b (most : Int) hl hb'
    rw [← hb'] at this
    exact this
  | false =>
    obtain ⟨h1, h2, h3⟩ := rdCut_ok hb'
    cases h1
    rw [h3, if_neg (by decide)]
    have hlt := valU_lt 4 (l.take 4) (by rw [List.length_take]; exact Nat.min_eq_left h2) (by decide)
    rcases Nat.lt_or_ge most (valU (l.take 4)).toNat with h | h
    · rw [if_pos h]
      exact rTextB_fc l (valU (l.take 4)).toNat most h2 hl rfl (by omega) h
    · rw [if_neg (by show ¬ most < (valU (l.take 4)).toNat; omega)]
      exact rTextS_fc l (valU (l.take 4)).toNat most h2 hl rfl (by omega) h hb
end
end Go.Proofs.YtcojfnjpcpochaaDoor.E
end
