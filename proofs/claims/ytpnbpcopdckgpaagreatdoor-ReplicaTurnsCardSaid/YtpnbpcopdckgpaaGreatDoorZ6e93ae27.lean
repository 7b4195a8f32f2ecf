import Derived.Test.YtpnbpcopdckgpaaGreatDoorZ5df34c3a
import Derived.Test.YtpnbpcopdckgpaaGreatDoorZ47c3d55d
import Derived.Test.YtpnbpcopdckgpaaGreatDoorZe95ca6bc
namespace Go.Proofs.YtpnbpcopdckgpaaGreatDoor.E
open Go Go.RowKit V
set_option maxRecDepth 4000
attribute [local irreducible] sum tag input laidN wstep walkT secretT
section
variable {G : List (Nat × Array Value)}
theorem alwaysC_fc (c at' : Int) : FP G 156 [.v (.int .i64 c), .sptr [.v (.int .i64 at')]] [] (.v (.int .i64 at')) [] := by
 refine FC.of_wp [3] Tryz.func156 rfl rfl rfl rfl (by trivial) (by trivial) (Nat.le_of_ble_eq_true rfl) ?_
 intro A hG hnA hAB
 unfold start
 refine WP.rs hG (Ch.asg rfl rfl (Ch.nil (WP.rs hG (Ch.p1 rfl (OpS.loadS rfl rfl) rfl (Ch.asg rfl rfl (Ch.nil ?_))))))
 refine WP.ret (Ret.one rfl (by exact .rfl _) (by trivial) hnA)
theorem always_fc (at' : Int) : FP G 123 [.v (.int .i64 at')] [] (.fn (.func 156) [] [.sptr [.v (.int .i64 at')]]) [] := by
 refine FC.of_wp [2] Tryz.func123 rfl rfl rfl rfl (by trivial) (by trivial) (Nat.le_of_ble_eq_true rfl) ?_
 intro A hG hnA hAB
 unfold start
 refine WP.rs hG (Ch.p1 rfl (OpS.boxS) rfl (Ch.asg rfl rfl (Ch.nil (WP.rs hG (Ch.mf gdN (by repeat (first | exact EvL.nil | (apply EvL.cons; exact rfl))) rfl ?_)))))
 refine Ch.asg rfl rfl (Ch.nil ?_)
 refine WP.ret (Ret.one rfl (by exact .rfl _) (by trivial) hnA)
theorem signC_fc (c : Nat) (d : List Nat) (hc : c < d.length) : FP G 173 [.v (.int .i64 (c : Int)), .sptr [.sl none d.length (d.map nA)]] [] (nA (nget d c)) [] := by
 refine FC.of_wp [3] Tryz.func173 rfl rfl rfl rfl (by (simp; first | done | fail)) (by trivial) (Nat.le_of_ble_eq_true rfl) ?_
 intro A hG hnA hAB
 unfold start
 refine WP.rs hG (Ch.asg rfl rfl (Ch.nil (WP.rs hG (Ch.p1 rfl (OpS.loadS rfl rfl) rfl (Ch.mv rfl rfl (Ch.p2 rfl rfl (OpS.indexM rfl rfl rfl (by with_reducible exact Int.toNat_natCast _) (by omega) (by omega) (by rfl)) rfl ?_))))))
 refine Ch.p1 rfl (OpS.loadS rfl rfl) rfl (Ch.asg rfl rfl (Ch.nil ?_))
 refine WP.ret (Ret.one rfl (by exact .rfl _) (by trivial) hnA)
theorem secretC_fc (hm : ShaIn G) (c leaf : Int) (s : Txw) (hv : s.length ≤ 140737488355264) : FP G 153 [.v (.int .i64 c), .sptr [sA s], .sptr [.v (.int .i64 leaf)]] [] (sA (secretT s leaf c)) [] := by
 have hin := in3_len s (laidN leaf) (laidN c) 3
 rw [laidN_length, laidN_length] at hin
 have hval := value_fc hm 3 [s, laidN leaf, laidN c] (by omega)
 rw [← secretT_eq] at hval
 refine FC.of_wp [4] Tryz.func153 rfl rfl rfl rfl (by trivial) (by trivial) (Nat.le_of_ble_eq_true rfl) ?_
 intro A hG hnA hAB
 unfold start
 refine WP.rs hG (Ch.asg rfl rfl (Ch.nil (WP.rsD (by kernel_rfl) hG (Ch.p1 rfl (OpS.loadS rfl rfl) rfl (Ch.p1 rfl (OpS.loadS rfl rfl) rfl (Ch.callP (laid_fc leaf) gdN (.cons rfl .nil) (.c (.rfl _) .n) (by rfl) rfl ?_))))))
 refine Ch.mv rfl rfl (Ch.callP (laid_fc c) gdN (.cons rfl .nil) (.c (.rfl _) .n) (by rfl) rfl ?_)
 refine Ch.pup gdN (by repeat (first | exact EvP.nil | (apply EvP.cons; exact rfl))) (OpS.slice1 (ys := ([s, laidN leaf, laidN c] : List Txw).map sA) rfl rfl rfl rfl rfl rfl (by rfl) rfl (by rfl)) rfl ?_
 refine Ch.callP (hval) gdN (.cons rfl (.cons rfl .nil)) (.c (.rfl _) (.c (.rfl _) .n)) (by rfl) rfl ?_
 refine Ch.asg rfl rfl (Ch.nilD ?_ (by kernel_rfl))
 refine WP.ret (Ret.one rfl (by exact .rfl _) (by trivial) hnA)
theorem secrets_fc (s : Txw) (leaf : Int) : FP G 122 [sA s, .v (.int .i64 leaf)] [] (.fn (.func 153) [] [.sptr [sA s], .sptr [.v (.int .i64 leaf)]]) [] := by
 refine FC.of_wp [4] Tryz.func122 rfl rfl rfl rfl (by trivial) (by trivial) (Nat.le_of_ble_eq_true rfl) ?_
 intro A hG hnA hAB
 unfold start
 refine WP.rs hG (Ch.p1 rfl (OpS.boxS) rfl (Ch.p1 rfl (OpS.boxS) rfl (Ch.asg rfl rfl (Ch.nil (WP.rs hG (Ch.mf gdN (by repeat (first | exact EvL.nil | (apply EvL.cons; exact rfl))) rfl ?_))))))
 refine Ch.asg rfl rfl (Ch.nil ?_)
 refine WP.ret (Ret.one rfl (by exact .rfl _) (by trivial) hnA)
theorem walks_fc (f t s : AV) (hf : AV.ren (rn []) f = f) (ht : AV.ren (rn []) t = t) (hs' : AV.ren (rn []) s = s) (bf : f.bel (blt 0)) (bt : t.bel (blt 0)) (bs : s.bel (blt 0)) (cf : cellsA f = [f]) (ct : cellsA t = [t]) (cs : cellsA s = [s]) :
  FP G 121 [s, f, t] [] (.fn (.func 151) [] [.sptr [f], .sptr [t], .sptr [s]]) [] := by
 refine FC.of_wp [6] Tryz.func121 rfl rfl rfl rfl ⟨bs, bf, bt, trivial⟩ trivial (Nat.le_of_ble_eq_true rfl) ?_
 intro A hG hnA hAB
 unfold start
 refine WP.rs hG (Ch.p1 rfl (OpS.boxS) rfl (Ch.p1 rfl (OpS.boxS) rfl (Ch.p1 rfl (OpS.boxS) rfl (Ch.asg rfl rfl (Ch.nil (WP.rs hG (Ch.mf gdN (by repeat (first | exact EvL.nil | (apply EvL.cons; exact rfl))) rfl ?_)))))))
 refine Ch.asg rfl rfl (Ch.nil (WP.ret (Ret.one rfl (.of_eq ?_) ⟨trivial, ⟨bf, trivial⟩, ⟨bt, trivial⟩, ⟨bs, trivial⟩, trivial⟩ hnA)))
 show AV.fn _ [] [.sptr (cellsA f), .sptr (cellsA t), .sptr (cellsA s)] = AV.fn _ [] [.sptr [AV.ren (rn []) f], .sptr [AV.ren (rn []) t], .sptr [AV.ren (rn []) s]]
 rw [hf, ht, hs', cf, ct, cs]
end
end Go.Proofs.YtpnbpcopdckgpaaGreatDoor.E
namespace Go.Proofs.YtpnbpcopdckgpaaGreatDoor.E
open Go Go.RowKit V
theorem VRel.noE {N : Nat → Nat → Prop} {ρ ρ' : Env} {w : World} {av : AV} {x : Value} (h : VRel N ρ w av x) : av.bel (blt 0) → VRel N ρ' w av x := by
 have hno : ∀ i, blt 0 i = true → False := fun i hi => by have := blt_iff.1 hi; omega
 induction h with
 | v x => exact fun _ => .v x
 | agg cs vs hs _ ih => exact fun hb => .agg cs vs hs fun i c x hc hx => ih i c x hc hx (belL_get hb hc)
 | tup cs vs hs _ ih => exact fun hb => .tup cs vs hs fun i c x hc hx => ih i c x hc hx (belL_get hb hc)
 | sl o n cs a cap vals hc _ ho hn hz hm ih =>
  exact fun hb => .sl o n cs a cap vals hc (fun i c hc => ih i c hc (belL_get hb.2 hc)) (fun k hk => (hno k (hb.1 k hk)).elim) hn hz hm
 | arr id off n cap b hb hn hm => exact fun hb => (hno _ hb).elim
 | ptr id off b hb => exact fun hb => (hno _ hb).elim
 | sptr cs b off vals hc _ ih => exact fun hb => .sptr cs b off vals hc fun i c hc => ih i c hc (belL_get hb hc)
 | fn f fs cs vs us hs _ hs' _ ih ih' => exact fun hb => .fn f fs cs vs us hs (fun i c x hc hx => ih i c x hc hx (belL_get hb.1 hc)) hs' (fun i c x hc hx => ih' i c x hc hx (belL_get hb.2 hc))
 | mp id b hb => exact fun hb => (hno _ hb).elim
def AW (G : List (Nat × Array Value)) (N : Nat → Nat → Prop) (W : World) : Amb := ⟨W, N, fun _ _ => False, fun _ => False, 0, G, noE⟩
section
variable {G : List (Nat × Array Value)} {N : Nat → Nat → Prop} {W W' : World}
structure Stand (G : List (Nat × Array Value)) (N : Nat → Nat → Prop) (W : World) : Prop where
 lt : ∀ b o, N b o → b < W.heap.size
 tab : ∀ x ∈ G, ∃ T, W.heap[x.1]? = some (.cells x.2 T (0, 0))
theorem AW.hsat (h : Stand G N W) : HSat (AW G N W) noE (hl []) (blt 0) W := by
 have hno : ∀ i ob, hl [] i = some ob → False := fun i ob h => by have := (hl_some h).1; simp at this
 exact ⟨rfl, rfl, rfl, Nat.le_refl _, fun _ _ _ => rfl, fun _ _ _ => rfl, fun b o hb => h.lt b o hb, fun _ _ _ h => h, fun _ _ h => h, fun x hx => ⟨h.tab x hx, fun h => h⟩, (fun _ _ h => by cases h), (fun _ _ h => by cases h), (fun i hi => by cases hi), (fun _ _ h => by cases h), (fun _ _ h => by cases h),
   fun i ob h => (hno i ob h).elim, fun i ob _ _ h => (hno i ob h).elim, fun i ob _ h => (hno i ob h).elim, fun i j oi oj b h => (hno i oi h).elim⟩
def Sl (N : Nat → Nat → Prop) (W : World) (S : List (Nat × AV)) (a : Act) : Prop := ∀ t v, ls S t = some v → ∃ x, a.tmps[t]? = some x ∧ VRel N noE W v x
theorem Sl.sat {S : List (Nat × AV)} {a : Act} (hs : Sl N W S a) (h : Stand G N W) {m : Nat} (hn : a.tmps.size = m) : Sat (AW G N W) noE ⟨m, ls S, hl [], blt 0⟩ (bare a) W := by
 have hno : ∀ i ob, hl [] i = some ob → False := fun i ob h => by have := (hl_some h).1; simp at this
 exact ⟨AW.hsat h, fun t v ht => by obtain ⟨x, hx, hv⟩ := hs t v ht; exact ⟨x, hx, hv.mono (fun b o hb => ⟨h.lt b o hb, .inl hb, fun i ob hi => (hno i ob hi).elim⟩) (Env.le_refl _) (fun _ _ _ => rfl)⟩, hn, rfl⟩
theorem Sl.kept {S : List (Nat × AV)} {a : Act} (hs : Sl N W S a) (hk : KpN N G W W') : Sl N W' S a := fun t v ht => by
 obtain ⟨x, hx, hv⟩ := hs t v ht
 exact ⟨x, hx, hv.mono (fun _ _ h => h) (Env.le_refl _) hk.1⟩
def offL (S : List (Nat × AV)) (l : List Oper) : Bool := S.all fun x => l.all fun o => match o.dst with
 | some d => !(Nat.beq d x.1)
 | none => true
theorem Sl.frm {S : List (Nat × AV)} {a a' : Act} {l : List Oper} (hs : Sl N W S a) (hf : Frm l a a') (h : offL S l = true) : Sl N W S a' := fun t v ht => by
 obtain ⟨x, hx, hv⟩ := hs t v ht
 refine ⟨x, (hf.2 t fun o ho e => ?_).trans hx, hv⟩
 have := List.all_eq_true.1 (List.all_eq_true.1 h _ (ls_some ht)) o ho
 rw [e] at this
 simp at this
theorem Sl.put {S : List (Nat × AV)} {a : Act} (hs : Sl N W S a) {d : Nat} {y : Value} (h : (S.all fun x => !(Nat.beq d x.1)) = true) : Sl N W S (a.put (some d) y) := fun t v ht => by
 obtain ⟨x, hx, hv⟩ := hs t v ht
 refine ⟨x, (put_frame fun e => ?_).trans hx, hv⟩
 cases e
 have := List.all_eq_true.1 h _ (ls_some ht)
 simp at this
theorem Sl.raw {S : List (Nat × AV)} {a : Act} (hs : Sl N W S a) {t : Nat} {x : Value} (h : a.tmps[t]? = some x) : Sl N W ((t, .v x) :: S) a := fun t' v ht => by
 simp only [ls] at ht
 cases hb : Nat.beq t' t with
 | true =>
  rw [hb] at ht
  cases ht
  rw [Nat.beq_eq] at hb
  subst hb
  exact ⟨x, h, .v x⟩
 | false => rw [hb] at ht; exact hs t' v ht
theorem Sl.less {S S' : List (Nat × AV)} {a : Act} (hs : Sl N W S a) (h : ∀ t v, ls S' t = some v → ls S t = some v) : Sl N W S' a := fun t v ht => hs t v (h t v ht)
theorem Sat.rawslot {A : Amb} {ρ : Env} {σ : AS} {a : Act} {w : World} {t : Nat} {x : Value} (hs : Sat A ρ σ (bare a) w) (h : σ.s t = some (.v x)) : a.tmps[t]? = some x := by
 obtain ⟨y, hy, hv⟩ := hs.slots t _ h
 rw [hv.raw] at hy
 exact hy
theorem AW.next {ρ : Env} {h : Nat → Option AO} {u : Nat → Bool} (H : HSat (AW G N W) ρ h u W') : W.grownBy W' none ∧ KpN N G W W' :=
 ⟨⟨H.os, H.tape, H.output, H.size, fun k hk _ => H.block k hk (fun h => h)⟩, H.keep, fun x hx => by
  obtain ⟨⟨T, h1⟩, h2⟩ := H.tabs x hx
  exact H.block _ (Array.getElem?_eq_some_iff.1 h1).1 h2⟩
def Ns (N : Nat → Nat → Prop) (w : World) (b o : Nat) : Prop := N b o ∧ ∃ x, w.cell? ⟨b, o, none⟩ = some x
theorem VRel.ns {ρ : Env} {av : AV} {x : Value} (h : VRel N ρ W av x) : VRel (Ns N W) ρ W av x := h.mono2 (fun b o x hn hx => ⟨hn, x, hx⟩) (Env.le_refl _) (fun _ _ _ _ h => h)
theorem KpN.ns {w : World} (h : KpN N G W W') : KpN (Ns N w) G W W' := ⟨fun b o hn => h.1 b o hn.1, h.2⟩
theorem Stand.next {w : World} (h : Stand G (Ns N w) w) (hk : KpN (Ns N w) G w W) : Stand G (Ns N w) W := by
 refine ⟨fun b o hn => ?_, fun x hx => by rw [hk.2 x hx]; exact h.tab x hx⟩
 obtain ⟨y, hy⟩ := hn.2
 have : W.cell? ⟨b, o, none⟩ = some y := (hk.1 b o hn).trans hy
 obtain ⟨o', ho, -⟩ := cells_of_cell this
 exact (Array.getElem?_eq_some_iff.1 ho).1
theorem KpN.trans {A B C : World} (h1 : KpN N G A B) (h2 : KpN N G B C) : KpN N G A C := ⟨fun b o hn => (h2.1 b o hn).trans (h1.1 b o hn), fun x hx => (h2.2 x hx).trans (h1.2 x hx)⟩
theorem KpN.of_below {w : World} (h : Stand G N w) (hb : Below w.heap.size w W) : KpN N G w W := by
 refine ⟨fun b o hn => hb.cell (p := ⟨b, o, none⟩) (h.lt b o hn), fun x hx => hb.block _ ?_⟩
 obtain ⟨T, hT⟩ := h.tab x hx
 exact (Array.getElem?_eq_some_iff.1 hT).1
structure It (G : List (Nat × Array Value)) (N : Nat → Nat → Prop) (w : World) (J : World → Prop) (m : Nat) (S : List (Nat × AV)) (a : Act) (W : World) : Prop where
 sl : Sl (Ns N w) W S a
 n : a.tmps.size = m
 d : a.defers = []
 j : J W
 kp : KpN (Ns N w) G w W
variable {w : World} {J : World → Prop} {m : Nat} {S : List (Nat × AV)} {a : Act}
theorem It.sat (h : It G N w J m S a W) (hs : Stand G (Ns N w) w) : Sat (AW G (Ns N w) W) noE ⟨m, ls S, hl [], blt 0⟩ (bare a) W := h.sl.sat (hs.next h.kp) h.n
theorem It.go (h : It G N w J m S a W) {ρ : Env} {σ : AS} {a1 : Act} {W1 : World} {l : List Oper} (hs : Sat (AW G (Ns N w) W) ρ σ (bare a1) W1) (hn : σ.n = m) (hf : Frm l a a1) (ho : offL S l = true) (hJ : ∀ A B, J A → A.grownBy B none → J B) : It G N w J m S a1 W1 := by
 obtain ⟨h1, h2⟩ := AW.next hs.mem
 exact ⟨(h.sl.kept h2).frm hf ho, hs.nt.trans hn, hf.1.trans h.d, hJ _ _ h.j h1, h.kp.trans h2⟩
theorem It.yielded' (h : It G N w J m S a W) {J' : World → Prop} (hj : J' W') (hk : KpN N G W W') : It G N w J' m S a W' :=
 ⟨h.sl.kept hk.ns, h.n, h.d, hj, h.kp.trans hk.ns⟩
theorem It.put (h : It G N w J m S a W) {d : Nat} {y : Value} (hd : (S.all fun x => !(Nat.beq d x.1)) = true) : It G N w J m S (a.put (some d) y) W :=
 ⟨h.sl.put hd, by simp [Act.put, h.n], (put_defers _ _ _).trans h.d, h.j, h.kp⟩
theorem It.less (h : It G N w J m S a W) {S' : List (Nat × AV)} (hl : ∀ t v, ls S' t = some v → ls S t = some v) : It G N w J m S' a W := ⟨h.sl.less hl, h.n, h.d, h.j, h.kp⟩
theorem It.raw (h : It G N w J m S a W) {t : Nat} {x : Value} (hx : a.tmps[t]? = some x) : It G N w J m ((t, .v x) :: S) a W := ⟨h.sl.raw hx, h.n, h.d, h.j, h.kp⟩
theorem It.get (h : It G N w J m S a W) {t : Nat} {x : Value} (hx : ls S t = some (.v x)) : a.tmps[t]? = some x := by
 obtain ⟨y, hy, hv⟩ := h.sl t _ hx
 rw [hv.raw] at hy
 exact hy
end
theorem eval_of {a : Act} {t : Nat} {x : Value} (h : a.tmps[t]? = some x) : a.eval (.tmp t) = x := by simp [Act.eval, Array.getD_eq_getD_getElem?, h]
section
variable {F : Fence} {n : Nat} {P : Program} {ops : Array Oper} {Q : Exit → Act → World → Prop} {a : Act} {W : World} {dst : Option Tmp} {ty : TypeId} {pos : String} {aft : Array Edge} {gd : Option (Nat × Bool)}
theorem wpListIn_one {o : Oper} {rest : List Oper} (hg : o.guard = none) (h : o.wpIn F n P a W (wpListIn F n P ops Q rest) Q) : wpListIn F n P ops Q (o :: rest) a W := by
 unfold wpListIn
 rw [if_pos (by simp [Region.wanted, hg])]
 exact h
theorem wpIn_yield {c x : Operand} {ats : Array TypeId} {l : Nat} {v : Value} (hc : a.eval c = .func (.yield l) #[] #[]) (hx : a.eval x = v) {R : Ending → World → Prop} (hy : YieldAt Fence.wide (n - 1) P l #[v] W R) {K : Act → World → Prop}
  (hK : ∀ e W', R e W' → ∃ b, e = .returned (.bool b) ∧ K (a.put dst (.bool b)) W') : Oper.wpIn Fence.wide n P ⟨dst, .call ⟨.value c, #[x], ats⟩, ty, pos, aft, gd⟩ a W K Q := by
 obtain ⟨fn, tm, as', bo, hy, hR⟩ := hy
 refine ⟨fun _ _ => trivial, ?_⟩
 have hrun : ((⟨dst, .call ⟨.value c, #[x], ats⟩, ty, pos, aft, gd⟩ : Oper).semAt Fence.wide.round a.eval).run P W = .ok (.round l fn tm as' bo) W := by
  show (do let d ← Deferred.ofValue (a.eval c) (#[x].map a.eval); invoke d.target d.args : Sem Next).run P W = _
  rw [hc]
  simp only [List.map_toArray, List.map_cons, List.map_nil, hx]
  exact hy
 rw [hrun, Oper.uponIn_round]
 refine ⟨fun h => (by cases h), hR.mono ?_⟩
 rintro e W' he
 obtain ⟨b, rfl, h⟩ := hK e W' he
 exact h
theorem wpIn_not {x : Operand} {t : TypeId} {b : Bool} (hx : a.eval x = .bool b) {K : Act → World → Prop} (h : K (a.put dst (.bool (!b))) W) : Oper.wpIn Fence.wide n P ⟨dst, .unOp .not t x, ty, pos, aft, gd⟩ a W K Q := by
 refine ⟨fun _ _ => trivial, ?_⟩
 have hrun : ((⟨dst, .unOp .not t x, ty, pos, aft, gd⟩ : Oper).semAt Fence.wide.round a.eval).run P W = .ok (.value (.bool (!b))) W := by
  show (do pure (Next.value (← (Op.unary .not (a.eval x)))) : Sem Next).run P W = _
  refine runv ?_
  rw [hx]
  rfl
 rw [hrun, Oper.uponIn_value]
 exact h
end
end Go.Proofs.YtpnbpcopdckgpaaGreatDoor.E
namespace Go.Proofs.YtpnbpcopdckgpaaGreatDoor.E
open Go Go.RowKit V
set_option maxRecDepth 4000
attribute [local irreducible] sum tag input laidN wstep walkT secretT
abbrev Tx16 := { x : Txw // x.length ≤ 16 }
def encT (x : Tx16) : Value := .string (B x.1)
theorem range_map_succ {α : Type} (f : Nat → α) (k : Nat) : (List.range (k + 1)).map f = (List.range k).map f ++ [f k] := by simp [List.range_succ]
theorem WkL.refl : ∀ ys : List AV, WkL ys ys
 | [] => trivial
 | y :: ys => ⟨.rfl y, WkL.refl ys⟩
theorem wkl_caps {π : Nat → Nat} (x : AV) (hx : AV.ren π x = x) {cs : List AV} (h : AV.renL π cs = cs) : WkL ([x] ++ cs) ((x :: cs).map (AV.ren π)) := by
 rw [List.map_cons, hx, ← renL_eq, h]
 exact WkL.refl _
set_option maxHeartbeats 1000000 in
theorem walks_seq {G : List (Nat × Array Value)} (hm : ShaIn G) {fF fT fS : FuncId} {cF cT cS : List AV} {fr to : Nat → Int} {fst : Nat → Txw} {Lf : Nat → Tx16}
  (h1 : ∀ c : Nat, c < 10 → FP G fF (.v (.int .i64 (c : Int)) :: cF) [] (.v (.int .i64 (fr c))) []) (h2 : ∀ c : Nat, c < 10 → FP G fT (.v (.int .i64 (c : Int)) :: cT) [] (.v (.int .i64 (to c))) [])
  (h3 : ∀ c : Nat, c < 10 → FP G fS (.v (.int .i64 (c : Int)) :: cS) [] (sA (fst c)) []) (b1 : ∀ c, -9223372036854775808 ≤ fr c ∧ fr c ≤ 9223372036854775807) (b2 : ∀ c, -9223372036854775808 ≤ to c ∧ to c ≤ 9223372036854775807)
  (b3 : ∀ c, (fst c).length ≤ 140737488355264) (hL : ∀ c : Nat, c < 10 → (Lf c).1 = walkT c (fr c) (to c) (fst c))
  (r1 : AV.renL (pi [] 0) cF = cF) (r2 : AV.renL (pi [] 0) cT = cT) (r3 : AV.renL (pi [] 0) cS = cS) :
  SeqC Tryz.prog G 151 [.sptr [.fn (.func fF) [] cF], .sptr [.fn (.func fT) [] cT], .sptr [.fn (.func fS) [] cS]] encT ((List.range 10).map Lf) := by
 refine ⟨⟨_, _, Tryz.func151, rfl, rfl⟩, ?_⟩
 intro n w N ρ us hN hT hus hcap l J Jx W hW hJ hJx hY h0
 obtain ⟨S0, hS0⟩ : ∃ S0 : List (Nat × AV), S0 = [(0, .v (.func (.yield l) #[] #[])), (1, .sptr [.fn (.func fF) [] cF]), (2, .sptr [.fn (.func fT) [] cT]), (3, .sptr [.fn (.func fS) [] cS])] := ⟨_, rfl⟩
 have bF := (h1 0 (by decide)).belA.2
 have bT := (h2 0 (by decide)).belA.2
 have bS := (h3 0 (by decide)).belA.2
 have hSt : Stand G (Ns N w) w := ⟨fun b o hn => hN b o hn.1, hT⟩
 have hJ' : ∀ pre A B, J pre A → A.grownBy B none → J pre B := fun pre A B hj hg => hJ pre A B none hj hg (fun r e => by cases e)
 obtain ⟨x1, x2, x3, rfl⟩ : ∃ x1 x2 x3, us = #[x1, x2, x3] := by
  have hs : us.size = 3 := hus
  refine ⟨us[0], us[1], us[2], Array.ext (by simp [hs]) fun i hi _ => ?_⟩
  match i, hi with
  | 0, _ => rfl
  | 1, _ => rfl
  | 2, _ => rfl
  | i + 3, hi => omega
 refine callsIn_of_wp Tryz.func151 rfl trivial ?_ rfl
 have hI0 : It G N w (J []) 24 S0 { tmps := (#[.func (.yield l) #[] #[]] ++ #[x1, x2, x3]) ++ Array.replicate (24 - (#[Value.func (.yield l) #[] #[]] ++ #[x1, x2, x3]).size) undef, defers := [] } W := by
  refine ⟨?_, by simp, rfl, h0, KpN.of_below hSt hW⟩
  have hsl : Sl (Ns N w) w S0 { tmps := (#[.func (.yield l) #[] #[]] ++ #[x1, x2, x3]) ++ Array.replicate (24 - (#[Value.func (.yield l) #[] #[]] ++ #[x1, x2, x3]).size) undef, defers := [] } := by
   subst hS0
   intro t v ht
   have hm' := ls_some ht
   simp only [List.mem_cons, Prod.mk.injEq, List.not_mem_nil, or_false] at hm'
   rcases hm' with ⟨rfl, rfl⟩ | ⟨rfl, rfl⟩ | ⟨rfl, rfl⟩ | ⟨rfl, rfl⟩
   · exact ⟨.func (.yield l) #[] #[], by simp, .v _⟩
   · exact ⟨x1, by simp, ((hcap 0 _ x1 rfl rfl).ns).noE ⟨⟨trivial, bF⟩, trivial⟩⟩
   · exact ⟨x2, by simp, ((hcap 1 _ x2 rfl rfl).ns).noE ⟨⟨trivial, bT⟩, trivial⟩⟩
   exact ⟨x3, by simp, ((hcap 2 _ x3 rfl rfl).ns).noE ⟨⟨trivial, bS⟩, trivial⟩⟩
  exact hsl.kept (KpN.of_below hSt hW)
 refine wpIn_seq (wpIn_rg Wide.w rfl (A := AW G (Ns N w) W) rfl (K := fun σ => σ.n = 24 ∧ σ.s 6 = some (.v (.int .i64 ((0 : Nat) : Int)))) ?_ (hI0.sat hSt) ?_)
 ·
  subst hS0
  refine Ch.mv rfl rfl ?_
  exact Ch.nil ⟨rfl, rfl⟩
 rintro ρ1 σ1 a1 W1 ⟨n1, k1⟩ s1 f1
 have hI1 : It G N w (J []) 24 ((6, .v (.int .i64 ((0 : Nat) : Int))) :: S0) a1 W1 := (hI0.go s1 n1 f1 (by subst hS0; rfl) (hJ' _)).raw (s1.rawslot k1)
 refine wpIn_block (wpIn_loop (fun a W => ∃ k : Nat, k ≤ 10 ∧ It G N w (J ((List.range k).map Lf)) 24 ((6, .v (.int .i64 (k : Int))) :: S0) a W) (fun a _ => 10 - (intOf (a.eval (.tmp 6))).toNat) ⟨0, by decide, hI1⟩ ?_)
 clear hI0 hI1 s1 f1 n1 k1
 rintro a2 W2 ⟨k, hk, hI2⟩
 have e6 : a2.eval (.tmp 6) = .int .i64 (k : Int) := eval_of (hI2.get rfl)
 refine wpIn_seq (wpIn_rg Wide.w rfl (A := AW G (Ns N w) W2) rfl (K := fun σ => σ.n = 24 ∧ σ.s 7 = some (.v (.bool (decide ((k : Int) < 10))))) ?_ (hI2.sat hSt) ?_)
 ·
  subst hS0
  refine Ch.p2 rfl rfl (OpS.int rfl (by exact rfl)) rfl ?_
  exact Ch.nil ⟨rfl, rfl⟩
 rintro ρ3 σ3 a3 W3 ⟨n3, k3⟩ s3 f3
 have hI3 := hI2.go s3 n3 f3 (by subst hS0; rfl) (hJ' _)
 refine wpIn_seq (wpIn_cond (eval_of (s3.rawslot k3)) ?_)
 by_cases hk10 : k < 10
 ·
  have hd : decide ((k : Int) < 10) = true := by simp; omega
  rw [hd]
  refine wpIn_skip ?_
  refine wpIn_seq (wpIn_block (wpIn_seq (wpIn_rg Wide.w rfl (A := AW G (Ns N w) W3) rfl (K := fun σ => σ.n = 24 ∧ σ.s 5 = some (.v (.int .i64 (k : Int)))) ?_ (hI3.sat hSt) ?_)))
  ·
   subst hS0
   refine Ch.mv rfl rfl (Ch.asg rfl rfl ?_)
   exact Ch.nil ⟨rfl, rfl⟩
  rintro ρ4 σ4 a4 W4 ⟨n4, k4⟩ s4 f4
  have hI4 := (hI3.go s4 n4 f4 (by subst hS0; rfl) (hJ' _)).raw (s4.rawslot k4)
  have hw := walk_fc hm k (fr k) (to k) (fst k) (b3 k) (b1 k) (b2 k)
  rw [← hL k hk10] at hw
  have g1 := h1 k hk10
  have g2 := h2 k hk10
  have g3 := h3 k hk10
  have w1 := wkl_caps (.v (.int .i64 (k : Int))) rfl r1
  have w2 := wkl_caps (.v (.int .i64 (k : Int))) rfl r2
  have w3 := wkl_caps (.v (.int .i64 (k : Int))) rfl r3
  refine wpIn_seq (wpIn_rgT Wide.w 12 (by kernel_rfl) (by rfl) (by kernel_rfl) (A := AW G (Ns N w) W4) rfl (K := fun σ => σ.n = 24 ∧ σ.s 9 = some (.v (.func (.yield l) #[] #[])) ∧ σ.s 20 = some (.v (encT (Lf k)))) ?_ (hI4.sat hSt) ?_)
  ·
   subst hS0
   refine Ch.mv rfl rfl (Ch.mv rfl rfl (Ch.p1 rfl (OpS.loadS rfl rfl) rfl (Ch.mv rfl rfl (Ch.callF (g1) gdN (EvL.cons rfl (EvL.cons rfl EvL.nil)) (w1) (by rfl) rfl ?_))))
   refine Ch.p1 rfl (OpS.loadS rfl rfl) rfl (Ch.mv rfl rfl (Ch.callF (g2) gdN (EvL.cons rfl (EvL.cons rfl EvL.nil)) (w2) (by rfl) rfl ?_))
   refine Ch.p1 rfl (OpS.loadS rfl rfl) rfl (Ch.mv rfl rfl (Ch.callF (g3) gdN (EvL.cons rfl (EvL.cons rfl EvL.nil)) (w3) (by rfl) rfl ?_))
   refine Ch.callP (hw) gdN (.cons rfl (.cons rfl (.cons rfl (.cons rfl .nil)))) (.c (.rfl _) (.c (.rfl _) (.c (.rfl _) (.c (.rfl _) .n)))) (by rfl) rfl ?_
   exact Ch.nilD ⟨rfl, rfl, rfl⟩ (by kernel_rfl)
  rintro ρ5 σ5 a5 W5 ⟨n5, k9, k20⟩ s5 f5
  have hI5 := hI4.go s5 n5 f5 (by subst hS0; rfl) (hJ' _)
  simp only [List.drop_succ_cons, List.drop_zero]
  refine wpListIn_one rfl (wpIn_yield (eval_of (s5.rawslot k9)) (eval_of (s5.rawslot k20)) (hY _ (Lf k) W5 hI5.j (by simpa using hk10)) ?_)
  have hsz : a5.tmps.size = 24 := hI5.n
  rintro e W6 (⟨rfl, hj6, hk6⟩ | ⟨rfl, hj6⟩)
  ·
   refine ⟨true, rfl, wpListIn_one rfl (wpIn_not (b := true) (eval_of (by simp [Act.put, hsz])) ?_)⟩
   rw [← range_map_succ] at hj6
   have hI6 := (((hI5.yielded' (J' := J ((List.range (k + 1)).map Lf)) hj6 hk6).put (d := 21) (y := .bool true) (by subst hS0; rfl)).put (d := 22) (y := .bool (!true)) (by subst hS0; rfl))
   show Code.wpIn _ _ _ (Code.cond _ _ _) _ _ _
   refine wpIn_cond (t := false) (eval_of (by simp [Act.put, hsz])) ?_
   refine wpIn_skip ?_
   show Code.wpIn _ _ _ (Code.region _ _ _) _ _ _
   have hI7 : It G N w (J ((List.range (k + 1)).map Lf)) 24 ((6, .v (.int .i64 (k : Int))) :: S0) _ W6 := hI6.less (by
    intro t v ht
    simp only [ls] at ht ⊢
    cases h5 : Nat.beq t 5 with
    | true =>
     rw [Nat.beq_eq] at h5
     subst h5
     subst hS0
     cases ht
    | false => exact ht)
   refine wpIn_rg Wide.w rfl (A := AW G (Ns N w) W6) rfl (K := fun σ => σ.n = 24 ∧ σ.s 6 = some (.v (.int .i64 (((k + 1 : Nat) : Nat) : Int)))) ?_ (hI7.sat hSt) ?_
   ·
    subst hS0
    refine Ch.p2 rfl rfl (OpS.int rfl (by exact wr64 (by omega))) rfl ?_
    refine Ch.mv rfl rfl ?_
    exact Ch.nil ⟨rfl, rfl⟩
   rintro ρ8 σ8 a8 W8 ⟨n8, k8⟩ s8 f8
   have hI8 := ((hI7.less (S' := S0) (fun t v ht => by
    simp only [ls]
    cases h6 : Nat.beq t 6 with
    | true =>
     rw [Nat.beq_eq] at h6
     subst h6
     subst hS0
     cases ht
    | false => exact ht)).go s8 n8 f8 (by subst hS0; rfl) (hJ' _)).raw (s8.rawslot k8)
   show (∃ k : Nat, _ ∧ _) ∧ _
   refine ⟨⟨k + 1, by omega, hI8⟩, ?_⟩
   rw [e6, eval_of (s8.rawslot k8)]
   simp only [intOf]
   omega
  refine ⟨false, rfl, wpListIn_one rfl (wpIn_not (b := false) (eval_of (by simp [Act.put, hsz])) ?_)⟩
  show Code.wpIn _ _ _ (Code.cond _ _ _) _ _ _
  refine wpIn_cond (t := true) (eval_of (by simp [Act.put, hsz])) ?_
  refine wpIn_ret ?_
  refine ⟨(put_defers _ _ _).trans ((put_defers _ _ _).trans hI5.d), _, run_results _ _ _ _ [] rfl, ⟨_, rfl⟩, .inr ⟨_, ?_, hj6⟩⟩
  rw [← range_map_succ]
  obtain ⟨d, hd⟩ : ∃ d, 10 = k + 1 + d := ⟨10 - (k + 1), by omega⟩
  show List.map Lf (List.range (k + 1)) <+: List.map Lf (List.range 10)
  rw [hd, List.range_add (n := k + 1) (m := d), List.map_append]
  exact List.prefix_append _ _
 obtain rfl : k = 10 := by omega
 have hd : decide (((10 : Nat) : Int) < 10) = false := rfl
 rw [hd]
 refine wpIn_exit ?_
 simp only [Exit.then, Exit.inBlock, ↓reduceIte]
 exact ⟨hI3.d, _, run_results _ _ _ _ [] rfl, ⟨_, rfl⟩, .inl ⟨_, rfl, hI3.j⟩⟩
end Go.Proofs.YtpnbpcopdckgpaaGreatDoor.E
namespace Go.Proofs.YtpnbpcopdckgpaaGreatDoor.E
open Go Go.RowKit V
set_option maxRecDepth 4000
theorem ends_in (f : Nat → Txw) (n : Nat) (hn : n ≤ 10) (h : ∀ c, c < n → (f c).length = 16) : (input 4 (endsL f n)).length ≤ 140737488355328 := by
 have := inL_len 4 (endsL f n) 16 (fun p hp => by
  obtain ⟨c, hc, rfl⟩ := List.mem_map.1 hp
  rw [h c (by simpa using hc)]
  exact Nat.le_refl _)
 rw [endsL_length] at this
 have h2 : n * (16 + 4) ≤ 10 * (16 + 4) := Nat.mul_le_mul_right _ hn
 omega
theorem pub_in (seed : Txw) (leaf : Int) : (input 4 (endsL (pubF seed leaf) 10)).length ≤ 140737488355328 := ends_in _ 10 (Nat.le_refl _) fun c _ => pubF_length seed leaf c
attribute [local irreducible] sum tag input laidN wstep walkT secretT joinL endsL digitsT
theorem pubF_eq (seed : Txw) (leaf : Int) (c : Nat) : walkT (c : Int) 0 15 (secretT seed leaf c) = pubF seed leaf c := rfl
theorem endsL_0 (f : Nat → Txw) : endsL f 0 = [] := by unfold endsL; rfl
attribute [local irreducible] pubF signF fromF
theorem rpub_fc {G : List (Nat × Array Value)} (hr : RefIn G) (seed : Txw) (leaf : Int) (hv : seed.length ≤ 140737488355264) : FP G 74 [sA seed, .v (.int .i64 leaf)] [] (sA (pubT seed leaf)) [] := by
 have htag := rtag_fc hr.1 hr.2 4 (endsL (pubF seed leaf) 10) (pub_in seed leaf)
 rw [endsL_length] at htag
 refine FC.of_wp [4] Tryz.func74 rfl rfl rfl rfl (by trivial) (by trivial) (Nat.le_of_ble_eq_true rfl) ?_
 intro A hG hnA hAB
 unfold start
 refine WP.rs hG (Ch.asg rfl rfl (Ch.nil (WP.rs hG (Ch.a1 rfl (OpS.assignTip 0 9 1) rfl rfl (Ch.nil (WP.seq (WP.rs hG (Ch.asg rfl rfl (Ch.nil ?_)))))))))
 refine WP.block ?_
 refine WP.loop (fun k σ => ∃ m : Nat, m + k = 10 ∧ σ = ⟨22, ls [(0, sA seed), (1, .v (.int .i64 leaf)), (5, .sl (some 0) m ((endsL (pubF seed leaf) m).map sA)), (6, .v (.int .i64 (m : Int)))], lh [(0, .tip 9 1 m)], blt 1⟩) (10) (Ent.of [] ?_ ?_ ?_ ?_).se ⟨0, by omega, rfl⟩ ?_
 · exact na_of hnA rfl
 · (repeat (first | exact trivial | (refine ⟨⟨(by first | trivial | (simp; first | done | fail)), _, rfl, (by first | exact .rfl _ | exact .of_eq (by simp [endsL_0]; first | done | fail))⟩, ?_⟩)))
 · (repeat (first | exact trivial | (refine ⟨⟨rfl, (by trivial), (by rfl)⟩, ?_⟩)))
 · exact nd_of rfl
 rintro k σ ⟨m, hm', rfl⟩
 have hs1 := endsL_succ (pubF seed leaf) m
 have hl1 := endsL_length (pubF seed leaf) m
 have hw := rwalk_fc hr (m : Int) 0 15 (secretT seed leaf m) (by rw [secretT_length]; decide) (by decide) (by decide)
 rw [pubF_eq] at hw
 refine WP.seq (WP.rs hG (Ch.mv rfl rfl (Ch.p2 rfl rfl (OpS.int rfl (by exact rfl)) rfl ?_)))
 refine Ch.nil ?_
 refine WP.cond rfl ?_ ?_
 ·
  intro ht
  have ht' := of_decide_eq_true ht
  refine WP.skip (WP.seq (WP.block (WP.rg hG (Ch.mv rfl rfl (Ch.mv rfl rfl (Ch.mv rfl rfl (Ch.mv rfl rfl (Ch.mv rfl rfl (Ch.callP (rsecret_fc hr seed leaf (m : Int) hv) gdN (.cons rfl (.cons rfl (.cons rfl .nil))) (.c (.rfl _) (.c (.rfl _) (.c (.rfl _) .n))) (by rfl) rfl ?_)))))))))
  refine Ch.callP (hw) gdN (.cons rfl (.cons rfl (.cons rfl (.cons rfl .nil)))) (.c (.rfl _) (.c (.rfl _) (.c (.rfl _) (.c (.rfl _) .n)))) (by rfl) rfl ?_
  refine Ch.pup gdN (by repeat (first | exact EvP.nil | (apply EvP.cons; exact rfl))) (OpS.slice1 rfl rfl rfl rfl rfl rfl (by rfl) rfl (by rfl)) rfl ?_
  refine Ch.a2 rfl rfl (OpS.append (sz := 1) (bb := 16) 1 rfl rfl rfl rfl rfl (by decide) (SrcA.sl rfl (by simp)) (by (simp; assumption)) (by simp) (by unfold maxLen; omega) rfl (by omega)) rfl rfl rfl ?_
  refine Ch.asg rfl rfl (Ch.nil (WP.rg hG (Ch.mv rfl rfl (Ch.p2 rfl rfl (OpS.int rfl (by exact wr64 (by omega))) rfl ?_))))
  refine Ch.asg rfl rfl (Ch.nil ?_)
  refine ⟨k - 1, _, by omega, (Ent.of [1] ?_ ?_ ?_ ?_).se, m + 1, by omega, rfl⟩
  · exact na_of hnA rfl
  · (repeat (first | exact trivial | (refine ⟨⟨(by first | trivial | (simp; first | done | fail)), _, rfl, (by first | exact .rfl _ | exact .of_eq (by simp [hs1]; first | done | fail))⟩, ?_⟩)))
  · (repeat (first | exact trivial | (refine ⟨⟨rfl, (by trivial), (by rfl)⟩, ?_⟩)))
  exact nd_of rfl
 intro ht
 have ht' := of_decide_eq_false ht
 obtain rfl : m = 10 := by omega
 refine WP.exit (WP.rs hG (Ch.mv rfl rfl (Ch.callP (htag) gdN (.cons rfl (.cons rfl .nil)) (.c (.rfl _) (.c (AV.wk.sh (renL_s _ _)) .n)) (by rfl) rfl ?_)))
 refine Ch.asg rfl rfl (Ch.nil ?_)
 exact WP.ret (Ret.one rfl (.of_eq (by unfold pubT; simp)) trivial hnA)
end Go.Proofs.YtpnbpcopdckgpaaGreatDoor.E
namespace Go.Proofs.YtpnbpcopdckgpaaGreatDoor.E
open Go Go.RowKit V
set_option maxRecDepth 4000
theorem el_lt (msg : Txw) (c : Nat) : nget (digitsT msg) c < 16 := digits_lt (tag 1 [msg]) c
attribute [local irreducible] sum tag input laidN wstep walkT secretT digitsT
def vals (l : List Tx16) : List Txw := l.map (·.1)
theorem vals_append (a b : List Tx16) : vals (a ++ b) = vals a ++ vals b := List.map_append
theorem vals_length (l : List Tx16) : (vals l).length = l.length := List.length_map ..
theorem vals_one (x : Tx16) : vals [x] = [x.1] := rfl
theorem vals_in (l : List Tx16) (h : l.length ≤ 10) : (input 4 (vals l)).length ≤ 140737488355328 := by
 have := inL_len 4 (vals l) 16 fun p hp => by
  obtain ⟨x, _, rfl⟩ := List.mem_map.1 hp
  exact x.2
 rw [vals_length] at this
 omega
theorem key_fc {G : List (Nat × Array Value)} (hm : ShaIn G) {gf : FuncId} {caps : List AV} {L : List Tx16} (hseq : SeqC Tryz.prog G gf caps encT L) (hbel : ∀ u, AV.belL u caps) (hren : ∀ π, AV.renL π caps = caps) (hL : L.length ≤ 10) :
  FP G 120 [.fn (.func gf) [] caps] [] (sA (tag 4 (vals L))) [] := by
 have htag := tag_fc hm 4 (vals L) (vals_in L hL)
 refine FC.of_wpm [2] Tryz.func120 rfl rfl rfl rfl ⟨⟨trivial, hbel _⟩, trivial⟩ trivial (Nat.le_of_ble_eq_true rfl) ?_
 intro A hG hnA hAB
 unfold start
 refine WPM.seq (WP.rg hG (Ch.asg rfl rfl (Ch.nil (WPM.seq (WP.rg hG (Ch.a0 (OpS.alloc 0 rfl rfl rfl) rfl rfl (Ch.nil (WPM.seqS (WP.rg hG ?_)))))))))
 refine Ch.mv rfl rfl (Ch.nil ?_)
 refine WPS.range hG ([(3, .ptr 0 0), (5, .fn (.func gf) [] caps)]) (fun pre => [(0, .cells 32 [.sl (some 1) (vals pre).length ((vals pre).map sA)]), (1, .tip 9 1 (vals pre).length)]) (2) ((SEnt.nilCell (id := 0) (off := 0) 1 9 1 rfl rfl rfl rfl).trans (Ent.of [] ?_ ?_ ?_ ?_).se) rfl (hseq) (by decide) (by decide) (by rfl) (by rfl) (by rfl) ?_ ?_
 · exact na_of hnA rfl
 · (repeat (first | exact trivial | (refine ⟨⟨(by first | trivial | exact ⟨trivial, hbel _⟩), _, rfl, (by first | exact .rfl _ | exact .of_eq (by simp [hren]; first | done | fail))⟩, ?_⟩)))
 · (repeat (first | exact trivial | (refine ⟨⟨rfl, (by trivial), (by rfl)⟩, ?_⟩)))
 · exact nd_of rfl
 ·
  intro A' pre x hG' hnA' hlen
  have hG := hG'
  have hnA := hnA'.trans hnA
  have hl := vals_length pre
  refine Ch.q1 rfl (OpS.loadP rfl rfl rfl) rfl rfl (Ch.mv rfl rfl (Ch.pup gdN (by repeat (first | exact EvP.nil | (apply EvP.cons; exact rfl))) (OpS.slice1 (ys := ([x.1] : List Txw).map sA) rfl rfl rfl rfl rfl rfl (by rfl) rfl (by rfl)) rfl ?_))
  refine Ch.a2 rfl rfl (OpS.append (sz := 1) (bb := 16) 2 rfl rfl rfl rfl rfl (by decide) (SrcA.sl rfl (by simp)) (by (simp; done)) (by simp) (by unfold maxLen; omega) rfl (by omega)) rfl rfl rfl ?_
  refine Ch.ws rfl rfl (OpS.storeP (cs := [.sl (some 1) (vals pre).length ((vals pre).map sA)]) rfl rfl rfl (by simp)) rfl ?_
  refine Ch.nil ?_
  refine (Ent.of [0, 2] ?_ ?_ ?_ ?_).se
  · exact na_of hnA rfl
  · (repeat (first | exact trivial | (refine ⟨⟨(by first | trivial | exact ⟨trivial, hbel _⟩), _, rfl, (by first | exact .rfl _ | exact .of_eq (by simp [vals_append, vals_one, hren]; first | done | fail))⟩, ?_⟩)))
  · (repeat (first | exact trivial | (refine ⟨⟨rfl, (by first | trivial | (simp; first | done | fail)), (by (simp [vals_append, vals_one, hren]; first | done | fail))⟩, ?_⟩)))
  exact nd_of rfl
 intro A' hG' hnA'
 have hG := hG'
 have hnA := hnA'.trans hnA
 refine Ch.q1 rfl (OpS.loadP rfl rfl rfl) rfl rfl (Ch.callP (htag) gdN (.cons rfl (.cons rfl .nil)) (.c (.rfl _) (.c (AV.wk.sh (renL_s _ _)) .n)) (by rfl) rfl ?_)
 refine Ch.asg rfl rfl (Ch.nil ?_)
 exact Ret.one rfl (by exact .rfl _) (by trivial) hnA
abbrev alwA (n : Int) : AV := .fn (.func 156) [] [.sptr [.v (.int .i64 n)]]
abbrev secA (s : Txw) (leaf : Int) : AV := .fn (.func 153) [] [.sptr [sA s], .sptr [.v (.int .i64 leaf)]]
abbrev showA (s : Txw) : AV := .fn (.func 167) [] [.sptr [sA s]]
abbrev digA (f : FuncId) (d : List Nat) : AV := .fn (.func f) [] [.sptr [.sl none d.length (d.map nA)]]
def tx16 (f : Nat → Txw) (h : ∀ c, (f c).length ≤ 16) (c : Nat) : Tx16 := ⟨f c, h c⟩
theorem vals_range (f : Nat → Txw) (h : ∀ c, (f c).length ≤ 16) (n : Nat) : vals ((List.range n).map (tx16 f h)) = endsL f n := by
 unfold vals endsL
 rw [List.map_map]
 rfl
theorem renL_dig (π : Nat → Nat) (d : List Nat) : AV.renL π [.sptr [.sl none d.length (d.map nA)]] = [.sptr [.sl none d.length (d.map nA)]] := by simp
theorem ren_dig (π : Nat → Nat) (f : FuncId) (d : List Nat) : AV.ren π (digA f d) = digA f d := by simp
theorem bel_dig (u : Nat → Bool) (f : FuncId) (d : List Nat) : (digA f d).bel u := ⟨trivial, ⟨⟨by simp, belL_n _ _⟩, trivial⟩, trivial⟩
theorem i64_nat {n : Nat} (h : n < 16) : -9223372036854775808 ≤ (n : Int) ∧ (n : Int) ≤ 9223372036854775807 := by omega
section
variable {G : List (Nat × Array Value)}
theorem pub_seq (hm : ShaIn G) (s : Txw) (leaf : Int) (hv : s.length ≤ 140737488355264) : SeqC Tryz.prog G 151 [.sptr [alwA 0], .sptr [alwA 15], .sptr [secA s leaf]] encT ((List.range 10).map (tx16 (pubF s leaf) fun c => by rw [pubF_length]; exact Nat.le_refl _)) :=
 walks_seq hm (fr := fun _ => 0) (to := fun _ => 15) (fst := fun c => secretT s leaf c) (fun c _ => alwaysC_fc c 0) (fun c _ => alwaysC_fc c 15) (fun c _ => secretC_fc hm c leaf s hv) (fun _ => by decide) (fun _ => by decide) (fun c => by rw [secretT_length]; decide) (fun c _ => rfl) rfl rfl rfl
theorem pub_fc (hm : ShaIn G) (s : Txw) (leaf : Int) (hv : s.length ≤ 140737488355264) : FP G 82 [sA s, .v (.int .i64 leaf)] [] (sA (pubT s leaf)) [] := by
 have hwk := walks_fc (G := G) (alwA 0) (alwA 15) (secA s leaf) rfl rfl rfl ⟨trivial, ⟨trivial, trivial⟩, trivial⟩ ⟨trivial, ⟨trivial, trivial⟩, trivial⟩ ⟨trivial, ⟨trivial, trivial⟩, ⟨trivial, trivial⟩, trivial⟩ rfl rfl rfl
 have hkey := key_fc hm (pub_seq hm s leaf hv) (fun u => ⟨⟨⟨trivial, ⟨trivial, trivial⟩, trivial⟩, trivial⟩, ⟨⟨trivial, ⟨trivial, trivial⟩, trivial⟩, trivial⟩, ⟨⟨trivial, ⟨trivial, trivial⟩, ⟨trivial, trivial⟩, trivial⟩, trivial⟩, trivial⟩) (fun π => rfl) (by simp)
 rw [vals_range] at hkey
 refine FC.of_wp [4] Tryz.func82 rfl rfl rfl rfl (by trivial) (by trivial) (Nat.le_of_ble_eq_true rfl) ?_
 intro A hG hnA hAB
 unfold start
 refine WP.rs hG (Ch.asg rfl rfl (Ch.nil (WP.rs hG (Ch.mv rfl rfl (Ch.mv rfl rfl (Ch.callP (secrets_fc s leaf) gdN (.cons rfl (.cons rfl .nil)) (.c (.rfl _) (.c (.rfl _) .n)) (by rfl) rfl ?_))))))
 refine Ch.callP (always_fc 0) gdN (.cons rfl .nil) (.c (.rfl _) .n) (by rfl) rfl ?_
 refine Ch.callP (always_fc 15) gdN (.cons rfl .nil) (.c (.rfl _) .n) (by rfl) rfl ?_
 refine Ch.callP (hwk) gdN (.cons rfl (.cons rfl (.cons rfl .nil))) (.c (.rfl _) (.c (.rfl _) (.c (.rfl _) .n))) (by rfl) rfl ?_
 refine Ch.callP (hkey) gdN (.cons rfl .nil) (.c (.rfl _) .n) (by rfl) rfl ?_
 refine Ch.asg rfl rfl (Ch.nil ?_)
 refine WP.ret (Ret.one rfl (by exact .rfl _) (by trivial) hnA)
end
end Go.Proofs.YtpnbpcopdckgpaaGreatDoor.E
section
namespace Go.Proofs.YtpnbpcopdckgpaaGreatDoor.E
open Go Go.RowKit Go.Proofs.YtpnbpcopdckgpaaGreatDoor.V
set_option maxRecDepth 4000
section
variable {F : Fence} {n : Nat} {P : Program} {ops : Array Oper} {Q : Exit → Act → World → Prop} {a : Act} {W : World} {dst : Option Tmp} {ty : TypeId} {pos : String} {aft : Array Edge} {gd : Option (Nat × Bool)}
theorem wpIn_mv (hF : Wide F) {x : Operand} {K : Act → World → Prop} (h : K (a.put dst (a.eval x)) W) : Oper.wpIn F n P ⟨dst, .move x, ty, pos, aft, gd⟩ a W K Q := by
 refine ⟨fun f _ => hF.fn f, ?_⟩
 rw [Oper.semAt_eq _ _ _ (fun c h => by cases h)]
 exact h
theorem wpIn_as (hF : Wide F) {x : Operand} {K : Act → World → Prop} (h : K (a.put dst (a.eval x)) W) : Oper.wpIn F n P ⟨dst, .assign x, ty, pos, aft, gd⟩ a W K Q := by
 refine ⟨fun f _ => hF.fn f, ?_⟩
 rw [Oper.semAt_eq _ _ _ (fun c h => by cases h)]
 exact h
theorem wpIn_al (hF : Wide F) {T : TypeId} {inf : TypeInfo} {z : Value} (hi : P.info? T = some inf) (hz : inf.zero = some z) {K : Act → World → Prop} (h : K (a.put dst (.pointer (some ⟨W.heap.size, 0, none⟩))) (W.alloc (.cells z.cells T))) :
  Oper.wpIn F n P ⟨dst, .alloc T, ty, pos, aft, gd⟩ a W K Q := by
 refine ⟨fun f _ => hF.fn f, ?_⟩
 rw [Oper.semAt_eq _ _ _ (fun c h => by cases h)]
 have hrun : (execOp a.eval ⟨dst, .alloc T, ty, pos, aft, gd⟩).run P W = .ok (.value (.pointer (some ⟨W.heap.size, 0, none⟩))) (W.alloc (.cells z.cells T)) := by
  refine runv (s := Instr.alloc T true (.tuple #[])) ?_
  simp [Instr.alloc, newVar, newRow, zeroValue, typeInfo, hi, hz, Sem.run_bind, Sem.run_pure, Result.andThen_ok]
 rw [hrun]
 exact h
theorem wpIn_cl (hF : Wide F) {f : FuncId} {fn : Func} {c : Code} (hf : P.funcs[f]? = some fn) (hname : (fn.name == "runtime.NumGoroutine") = false) (hb : fn.body = some c) {xs : Array Operand} {ats : Array TypeId} {vs : Array Value} (hv : xs.map a.eval = vs)
  {R : Ending → World → Prop} (hc : Calls P f vs W R) {K : Act → World → Prop} (hK : ∀ e W', R e W' → ∃ v, e = .returned v ∧ K (a.put dst v) W') : Oper.wpIn F n P ⟨dst, .call ⟨.value (.func f), xs, ats⟩, ty, pos, aft, gd⟩ a W K Q := by
 refine ⟨fun f _ => hF.fn f, ?_⟩
 rw [Oper.semAt_eq _ _ _ (fun c h => by cases h)]
 have hrun : (execOp a.eval ⟨dst, .call ⟨.value (.func f), xs, ats⟩, ty, pos, aft, gd⟩).run P W = .ok (.enter f vs) W := by
  have := run_enter hf hname hb vs W
  show (do let d ← Deferred.ofValue (.func (.func f) #[] #[]) (xs.map a.eval); invoke d.target d.args : Sem Next).run P W = _
  rw [hv]
  show (callFunc f (#[] ++ vs ++ #[])).run P W = _
  simpa using this
 rw [hrun]
 refine ⟨fun h => (by rw [hF.depth] at h; cases h), (hF.calls hc).mono ?_⟩
 rintro e W' he
 obtain ⟨v, rfl, h⟩ := hK e W' he
 exact h
theorem wpIn_lv (lp : Nat) {p v ia : Nat} {y : Value} (hp : p < a.tmps.size) {K : Act → World → Prop} (hK : K { tmps := (a.tmps.setIfInBounds p y).setIfInBounds v y, defers := [] } W) :
  (Code.region ia #[⟨some v, .assign (.tmp p), ty, pos, aft, none⟩] false).wpIn (Fence.wide.inRound lp) n P (Exit.then K Q) { tmps := (#[p].zip #[y]).foldl (fun t (q, v) => t.setIfInBounds q v) a.tmps, defers := [] } W := by
 refine wpIn_region_lit (l := [_]) (wpListIn_one rfl (wpIn_as (Wide.rd lp) ?_))
 have h1 : (({ tmps := (#[p].zip #[y]).foldl (fun t (q, v) => t.setIfInBounds q v) a.tmps, defers := [] } : Act).eval (.tmp p)) = y := by simp [Act.eval, Array.getD_eq_getD_getElem?, hp]
 rw [h1]
 have h2 : Act.put { tmps := (#[p].zip #[y]).foldl (fun t (q, v) => t.setIfInBounds q v) a.tmps, defers := [] } (some v) y = { tmps := (a.tmps.setIfInBounds p y).setIfInBounds v y, defers := [] } := by simp [Act.put]
 rw [h2]
 exact hK
end
theorem WPM.from {P : Program} {A : Amb} {rs : List Tmp} {res : AV} {H' : List (Option AO)} {c : Code} {σ σ' : AS} (h : SEnt A σ σ') (k : WPM P A rs res H' c σ') : WPM P A rs res H' c σ :=
 ⟨fun ρ a w hs => by obtain ⟨ρ', hs'⟩ := h ρ a w hs; exact k.run ρ' a w hs'⟩
theorem joinL_flat (f : Nat → Txw) : ∀ n, joinL f n = (endsL f n).flatten
 | 0 => rfl
 | n + 1 => by rw [joinL, joinL_flat f n, endsL_succ, List.flatten_append]; simp
theorem flat_len : ∀ l : List Tx16, (vals l).flatten.length ≤ 16 * l.length
 | [] => Nat.le_refl _
 | x :: l => by
  have h1 := flat_len l
  have h2 := x.2
  show (x.1 ++ (vals l).flatten).length ≤ _
  rw [List.length_append, List.length_cons]
  omega
theorem own_cells {w : World} {base : Nat} {v : Value} {l : List UInt8} (h : obytes w base v l) {k : Nat} (hk : v.ownBlock = some k) : ∃ o : Obj, w.heap[k]? = some o ∧ o.isCells = true := by
 rcases h.2 with ⟨rfl, -⟩ | ⟨g, cap, cur, rfl, -, hg, -⟩
 · cases hk
 cases hk
 exact ⟨_, hg, rfl⟩
theorem bld_rest {w w' : World} {base b : Nat} {v : Value} {l : List UInt8} (h : Bld w base b v l) {row : Option Nat} (hg : w.grownBy w' row) (hr : ∀ r, row = some r → ∃ o : Obj, w.heap[r]? = some o ∧ o.isCells = false) : Bld w' base b v l := by
 have key : ∀ (k : Nat) (o : Obj), w.heap[k]? = some o → o.isCells = true → w'.heap[k]? = w.heap[k]? := fun k o ho hc => grownBy_keeps_cells hg hr ho hc
 have hb : w'.heap[b]? = w.heap[b]? := by rcases h.at_ with h | h <;> exact key b _ h rfl
 refine ⟨by rw [hb]; exact h.at_, ?_, h.ne⟩
 have hf : Fr row.toList w w' := Fr.of_grown hg
 refine h.own.kept hf fun k hk hkr => ?_
 obtain ⟨c, hc⟩ := own_cells h.own hk
 cases row with
 | none => simp at hkr
 | some r =>
  simp only [Option.toList_some, List.mem_singleton] at hkr
  subst hkr
  obtain ⟨o, ho, hno⟩ := hr k rfl
  rw [hc.1] at ho
  cases ho
  rw [hc.2] at hno
  cases hno
attribute [local irreducible] sum tag input laidN wstep walkT secretT digitsT
theorem bld_info : ∃ inf : TypeInfo, Tryz.prog.info? 148 = some inf ∧ inf.zero = some (.agg #[.pointer none, .slice none 0 0]) := ⟨_, rfl, rfl⟩
theorem sign_seq {G : List (Nat × Array Value)} (hm : ShaIn G) (s : Txw) (leaf : Int) (msg : Txw) (hv : s.length ≤ 140737488355264) : SeqC Tryz.prog G 151 [.sptr [alwA 0], .sptr [digA 173 (digitsT msg)], .sptr [secA s leaf]] encT ((List.range 10).map (tx16 (signF s leaf (digitsT msg)) fun c => by rw [signF_length]; exact Nat.le_refl _)) :=
 walks_seq hm (fr := fun _ => 0) (to := fun c => (nget (digitsT msg) c : Nat)) (fst := fun c => secretT s leaf c) (fun c _ => alwaysC_fc c 0) (fun c hc => signC_fc c (digitsT msg) (by rw [digitsT_length]; exact hc)) (fun c _ => secretC_fc hm c leaf s hv) (fun _ => by decide) (fun c => i64_nat (el_lt msg c))
  (fun c => by rw [secretT_length]; decide) (fun c _ => rfl) rfl (renL_dig _ _) rfl
set_option maxHeartbeats 1000000 in
theorem sign_fc {G : List (Nat × Array Value)} (hm : ShaIn G) (s : Txw) (leaf : Int) (msg : Txw) (hv : s.length ≤ 140737488355264) (hv2 : msg.length ≤ 140737488355264) :
  FP G 162 [sA s, .v (.int .i64 leaf), sA msg] [] (sA (signT s leaf msg)) [] := by
 have hdg := digits_fc (G := G) hm msg hv2
 have hseq := sign_seq hm s leaf msg hv
 have hwk := walks_fc (G := G) (alwA 0) (digA 173 (digitsT msg)) (secA s leaf) rfl (ren_dig _ _ _) rfl ⟨trivial, ⟨trivial, trivial⟩, trivial⟩ (bel_dig _ _ _) ⟨trivial, ⟨trivial, trivial⟩, ⟨trivial, trivial⟩, trivial⟩ rfl rfl rfl
 obtain ⟨d, hd⟩ : ∃ d, d = digitsT msg := ⟨_, rfl⟩
 obtain ⟨L, hL⟩ : ∃ L : List Tx16, L = (List.range 10).map (tx16 (signF s leaf (digitsT msg)) fun c => by rw [signF_length]; exact Nat.le_refl _) := ⟨_, rfl⟩
 have hLl : L.length = 10 := by rw [hL]; simp
 have hres : (vals L).flatten = signT s leaf msg := by rw [hL, vals_range, ← joinL_flat]; rfl
 have hne : (vals L).flatten ≠ [] := by rw [hres]; exact fun e => by have := signT_length s leaf msg; rw [e] at this; simp at this
 rw [← hL] at hseq
 rw [← hd] at hdg hseq hwk
 clear hL
 refine FC.of_wpm [6] Tryz.func162 rfl rfl rfl rfl ⟨trivial, trivial, trivial, trivial⟩ trivial (Nat.le_of_ble_eq_true rfl) ?_
 intro A hG hnA hAB
 unfold start
 refine WPM.seq (WP.rg hG (Ch.asg rfl rfl (Ch.nil (WPM.seq (WP.rg hG (Ch.mv rfl rfl (Ch.callS (hdg) gdN (.cons rfl .nil) (.c (.rfl _) .n) (by simp) rfl ?_)))))))
 refine Ch.a0 (OpS.alloc 0 rfl rfl rfl) rfl rfl (Ch.ws rfl rfl (OpS.storeP (cs := [.v (.slice none 0 0)]) rfl rfl rfl (by simp)) rfl ?_)
 refine Ch.nil ?_
 refine WPM.from ((SEnt.frz (t := 7) (id := 0) rfl rfl).trans (Ent.of (l := [(0, sA s), (1, .v (.int .i64 leaf)), (7, .sptr [.sl none d.length (d.map nA)])]) (lo := []) (m := 1) [] ?_ ?_ ?_ ?_).se) ?_
 · exact na_of hnA rfl
 · (repeat (first | exact trivial | (refine ⟨⟨(by first | trivial | (simp; first | done | fail)), _, rfl, (by first | exact .rfl _ | exact .of_eq (by simp; first | done | fail))⟩, ?_⟩)))
 · (repeat (first | exact trivial | (refine ⟨⟨rfl, (by first | trivial | (simp; first | done | fail) | exact ⟨trivial, hbel _⟩), (by first | rfl | (simp; first | done | fail))⟩, ?_⟩)))
 · exact nd_of rfl
 constructor
 intro ρ a w hs
 have hno : ∀ i ob, lh [] i = some ob → False := fun i ob h => by cases h
 obtain ⟨inf, hi1, hi2⟩ := bld_info
 refine (wpIn_wide (n := 4)).1 (wpIn_seq (wpIn_region_lit (l := [_]) (wpListIn_one rfl (wpIn_al Wide.w hi1 hi2 ?_))))
 obtain ⟨w1, hw1⟩ : ∃ w1, w1 = w.alloc (.cells (Value.agg #[.pointer none, .slice none 0 0]).cells 148) := ⟨_, rfl⟩
 obtain ⟨N, hN⟩ : ∃ N, N = Nh A (lh []) ρ w := ⟨_, rfl⟩
 have hz1 : w1.heap.size = w.heap.size + 1 := by rw [hw1]; simp
 have ho1 : ∀ k, k < w.heap.size → w1.heap[k]? = w.heap[k]? := fun k hk => by rw [hw1]; exact Below.heap_alloc w _ k hk
 have hNlt : ∀ b o, N b o → b < w.heap.size := fun b o hn => by rw [hN] at hn; exact hn.1
 have htw : ∀ x ∈ G, ∃ T, w.heap[x.1]? = some (.cells x.2 T (0, 0)) := fun x hx => (hs.mem.now.tabs x (by show x ∈ A.G; rw [hG]; exact hx)).1
 have htlt : ∀ x ∈ G, x.1 < w.heap.size := fun x hx => by obtain ⟨T, hT⟩ := htw x hx; exact (Array.getElem?_eq_some_iff.1 hT).1
 have hSt : Stand G (Ns N w1) w1 := ⟨fun b o hn => by have := hNlt b o hn.1; omega, fun x hx => by rw [ho1 _ (htlt x hx)]; exact htw x hx⟩
 obtain ⟨S, hS⟩ : ∃ S : List (Nat × AV), S = [(0, sA s), (1, .v (.int .i64 leaf)), (7, .sptr [.sl none d.length (d.map nA)])] := ⟨_, rfl⟩
 rw [← hw1]
 show Code.wpIn Fence.wide 4 _ (Code.seq _ _) _ (a.put (some 8) (.pointer (some ⟨w.heap.size, 0, none⟩))) w1
 have hI1 : It G N w1 (fun _ => True) 22 S (a.put (some 8) (.pointer (some ⟨w.heap.size, 0, none⟩))) w1 := by
  refine ⟨?_, by simp [Act.put, hs.nt], (put_defers _ _ _).trans hs.defers, trivial, ⟨fun _ _ _ => rfl, fun _ _ => rfl⟩⟩
  have hsl : Sl (Ns N w1) w1 S a := fun t v ht => by
   obtain ⟨x, hx, hvx⟩ := hs.slots t v (by rw [← hS]; exact ht)
   refine ⟨x, hx, VRel.noE (ρ := ρ) (VRel.ns (hvx.mono (fun b o hb => by rw [hN]; exact hb) (Env.le_refl _) (fun b o hb => World.cell?_of_block (w := w) (ho1 b hb.1)))) ?_⟩
   subst hS
   have hm' := ls_some ht
   simp only [List.mem_cons, Prod.mk.injEq, List.not_mem_nil, or_false] at hm'
   rcases hm' with ⟨rfl, rfl⟩ | ⟨rfl, rfl⟩ | ⟨rfl, rfl⟩
   · exact trivial
   · exact trivial
   exact ⟨⟨by simp, belL_n _ _⟩, trivial⟩
  exact hsl.put (by subst hS; rfl)
 refine wpIn_seq (wpIn_seq (wpIn_rg Wide.w rfl (A := AW G (Ns N w1) w1) rfl (K := fun σ => σ.n = 22 ∧ σ.h = hl [] ∧ σ.s 17 = some (AV.ren (pi [] 0) (.fn (.func 151) [] [.sptr [alwA 0], .sptr [digA 173 d], .sptr [secA s leaf]]))) ?_ (hI1.sat hSt) ?_))
 ·
  subst hS
  refine Ch.mv rfl rfl (Ch.mv rfl rfl (Ch.callP (secrets_fc s leaf) gdN (.cons rfl (.cons rfl .nil)) (.c (.rfl _) (.c (.rfl _) .n)) (by rfl) rfl ?_))
  refine Ch.callP (always_fc 0) gdN (.cons rfl .nil) (.c (.rfl _) .n) (by rfl) rfl ?_
  refine Ch.mf gdN (by repeat (first | exact EvL.nil | (apply EvL.cons; exact rfl))) rfl ?_
  refine Ch.callP (hwk) gdN (EvL.cons rfl (EvL.cons rfl (EvL.cons rfl EvL.nil))) (⟨.rfl _, .rfl _, .of_eq (ren_dig _ _ _).symm, trivial⟩) (by rfl) rfl ?_
  exact Ch.nil ⟨rfl, rfl, rfl⟩
 rintro ρ3 σ3 a3 w3 ⟨n3, h3, k17⟩ s3 f3
 have hI3 := hI1.go s3 n3 f3 (by subst hS; rfl) (fun _ _ _ _ => trivial)
 obtain ⟨hg3, -⟩ := AW.next s3.mem
 obtain ⟨xw, hxw, hvw⟩ := s3.slots 17 _ k17
 rw [h3] at hvw
 obtain ⟨N3, hN3⟩ : ∃ N3, N3 = Nh (AW G (Ns N w1) w1) (hl []) ρ3 w3 := ⟨_, rfl⟩
 rw [← hN3, show AV.ren (pi [] 0) (.fn (.func 151) [] [.sptr [alwA 0], .sptr [digA 173 d], .sptr [secA s leaf]]) = .fn (.func 151) [] [.sptr [alwA 0], .sptr [digA 173 d], .sptr [secA s leaf]] by simp] at hvw
 have hN3b : ∀ b o, N3 b o → b < w3.heap.size ∧ b ≠ w.heap.size := fun b o hn => by
  rw [hN3] at hn
  refine ⟨hn.1, ?_⟩
  rcases hn.2.1 with hx | hx | hx
  · have := hNlt b o hx.1; omega
  · exact hx.elim
  have : w1.heap.size ≤ b := hx
  omega
 obtain ⟨us, hus, hcap, hev⟩ : ∃ us : Array Value, us.size = 3 ∧ (∀ (i : Nat) (c : AV) (x : Value), [AV.sptr [alwA 0], .sptr [digA 173 d], .sptr [secA s leaf]][i]? = some c → us[i]? = some x → VRel N3 ρ3 w3 c x) ∧ xw = .func (.func 151) #[] us := by
  cases hvw with
  | fn f' fs cs vs us hs1 k1 hs2 k2 =>
   refine ⟨us, hs2, k2, ?_⟩
   obtain rfl := Array.eq_empty_of_size_eq_zero (by simpa using hs1)
   rfl
 subst hev
 have hbk3 : w3.heap[w.heap.size]? = some (.cells #[.pointer none, .slice none 0 0] 148 (0, 0)) := by
  rw [hg3.block _ (by omega) (by simp), hw1]
  exact heap_alloc_new w _
 have hp8 : a3.tmps[8]? = some (.pointer (some ⟨w.heap.size, 0, none⟩)) := by
  rw [f3.2 8 (by decide)]
  simp [Act.put, hs.nt]
 have ht3 : ∀ x ∈ G, ∃ T, w3.heap[x.1]? = some (.cells x.2 T (0, 0)) := (hSt.next hI3.kp).tab
 have hsz3 : a3.tmps.size = 22 := hI3.n
 have hd3 : a3.defers = [] := hI3.d
 show Code.wpIn Fence.wide 4 _ (Code.block 0 _) _ a3 w3
 refine wpIn_block (wpIn_rangeFunc_ownF (F := Fence.wide) (n := 4) rfl (by omega) (gf := 151) (lb := us) (eval_of hxw) trivial (fun args W => run_enter Tryz.func151 rfl rfl args W) (hseq.stops 3 w3 N3 ρ3 us (fun b o hn => (hN3b b o hn).1) ht3 hus hcap) ?_ ?_ (Below.refl _ _) (fun _ => rfl)
  (fun pre W => (∃ v, Bld W w3.heap.size w.heap.size v (vals pre).flatten) ∧ Fr [w.heap.size] w3 W) (fun _ _ _ => False) ?_ (fun _ _ _ _ _ hx _ _ => hx) ⟨⟨_, .inl hbk3, obytes_nil _ _, by simp [Value.ownBlock]⟩, Fr.refl _ _⟩
  (fun x => { tmps := (a3.tmps.setIfInBounds 18 (encT x)).setIfInBounds 9 (encT x), defers := [] }) ?assign ?body ?done (fun _ _ _ _ _ _ hx => hx.elim))
 ·
  intro A' B' C' h1 h2
  exact KpN.trans h1 h2
 ·
  intro W k o o' hk hl hc _
  have key : ∀ b, b < w3.heap.size → (W.putObj k o').heap[b]? = W.heap[b]? := fun b hb => World.putObj_heap_other (by omega)
  refine ⟨fun b o hn => World.cell?_of_block (w := W) (key b (hN3b b o hn).1), fun x hx => key _ ?_⟩
  obtain ⟨T, hT⟩ := ht3 x hx
  exact (Array.getElem?_eq_some_iff.1 hT).1
 ·
  rintro pre W W' row ⟨⟨v, hB⟩, hF⟩ hgr hr
  exact ⟨⟨v, bld_rest hB hgr fun r e => (hr r e).2⟩, hF.grown hgr fun k e => .inr (hr k e).1⟩
 case assign =>
  intro lp x W K hK
  exact wpIn_lv lp (by rw [hsz3]; decide) hK
 case body =>
  rintro lp pre x W ⟨⟨v, hB⟩, hF⟩ hlen
  rw [hLl] at hlen
  have hfl := flat_len pre
  have hx := x.2
  refine wpIn_block (wpIn_region_lit (l := [_, _]) (wpListIn_one rfl (wpIn_mv (Wide.rd lp) (wpListIn_one rfl (wpIn_cl (Wide.rd lp) (vs := #[.pointer (some ⟨w.heap.size, 0, none⟩), .string (B x.1)]) Tryz.func86 rfl rfl ?_ (writeString_ok w3.heap.size w.heap.size v (vals pre).flatten x.1 W hB (by omega) hF.size) ?_)))))
  ·
   have e8 : ∀ y : Value, (Act.put { tmps := (a3.tmps.setIfInBounds 18 (encT x)).setIfInBounds 9 (encT x), defers := [] } (some 19) y).eval (.tmp 8) = .pointer (some ⟨w.heap.size, 0, none⟩) := fun y => eval_of (by
    show ((((a3.tmps.setIfInBounds 18 _).setIfInBounds 9 _).setIfInBounds 19 _))[8]? = _
    rw [Array.getElem?_setIfInBounds_ne (by decide), Array.getElem?_setIfInBounds_ne (by decide), Array.getElem?_setIfInBounds_ne (by decide)]
    exact hp8)
   have e9 : (Act.eval { tmps := (a3.tmps.setIfInBounds 18 (encT x)).setIfInBounds 9 (encT x), defers := [] } (.tmp 9)) = .string (B x.1) := eval_of (by simp [hsz3, encT])
   have e19 : ∀ y : Value, (Act.put { tmps := (a3.tmps.setIfInBounds 18 (encT x)).setIfInBounds 9 (encT x), defers := [] } (some 19) y).eval (.tmp 19) = y := fun y => eval_of (by simp [Act.put, hsz3])
   simp only [List.map_toArray, List.map_cons, List.map_nil, e8, e19, e9]
  rintro e W' ⟨rfl, v', hB', hF', -⟩
  refine ⟨_, rfl, ?_⟩
  show KeepsOthers W W' ∧ KpN N3 G W W' ∧ _
  have hown : ∀ k, k ∈ w.heap.size :: v.ownBlock.toList → (∃ o : Obj, W.heap[k]? = some o ∧ o.isCells = true) ∧ (k = w.heap.size ∨ w3.heap.size ≤ k) := fun k hk => by
   rcases List.mem_cons.1 hk with rfl | hk
   · exact ⟨by rcases hB.at_ with h | h <;> exact ⟨_, h, rfl⟩, .inl rfl⟩
   have hk' : v.ownBlock = some k := by simpa using hk
   exact ⟨own_cells hB.own hk', .inr (hB.own.lt k hk').1⟩
  refine ⟨⟨hF'.size, fun k o hko hno => ?_⟩, ⟨fun b o hn => hF'.cell (Nat.lt_of_lt_of_le (hN3b b o hn).1 hF.size) fun hb => ?_, fun y hy => hF'.block _ ?_ fun hb => ?_⟩, ⟨v', by rw [vals_append, vals_one, List.flatten_append]; simpa using hB'⟩, hF.trans' hF' (fun _ h => .inl h) fun k hk => ?_⟩
  ·
   refine (hF'.block k (Array.getElem?_eq_some_iff.1 hko).1 fun hk => ?_).trans hko
   obtain ⟨⟨o', ho', hc'⟩, -⟩ := hown k hk
   rw [hko] at ho'
   cases ho'
   rw [hno] at hc'
   cases hc'
  ·
   have := hN3b b o hn
   rcases (hown b hb).2 with h | h <;> omega
  ·
   obtain ⟨T, hT⟩ := ht3 y hy
   exact Nat.lt_of_lt_of_le (Array.getElem?_eq_some_iff.1 hT).1 hF.size
  ·
   have h1 := htlt y hy
   have h2 := hg3.size
   rcases (hown _ hb).2 with h | h <;> omega
  rcases (hown k hk).2 with h | h
  · exact .inl (by simp [h])
  exact .inr h
 case done =>
  rintro D xs W hD rfl ⟨⟨v, hB⟩, hF⟩ hDd
  show Code.wpIn Fence.wide 4 _ (Code.seq _ _) _ { a3 with defers := _ } W
  refine wpIn_seq (wpIn_region_lit (l := [_, _]) (wpListIn_one rfl (wpIn_cl Wide.w (vs := #[.pointer (some ⟨w.heap.size, 0, none⟩)]) Tryz.func88 rfl rfl (by simp only [List.map_toArray, List.map_cons, List.map_nil]; exact congrArg (fun y => #[y]) (eval_of hp8)) (builderString_ok w3.heap.size w.heap.size v _ W hB hne) ?_)))
  rintro e W' ⟨rfl, hF'⟩
  refine ⟨_, rfl, wpListIn_one rfl (wpIn_as Wide.w ?_)⟩
  rw [eval_of (a := Act.put { a3 with defers := _ } (some 21) _) (x := .string (B (vals xs).flatten)) (by simp [Act.put, hsz3])]
  show Code.wpIn Fence.wide 4 _ Code.ret _ _ W'
  have hall : ∀ k, k < w.heap.size → W'.heap[k]? = w.heap[k]? := fun k hk => by
   have z3 := hg3.size
   rw [hF'.block k (by have := hF.size; omega) (fun hkk => by have := (hB.own.lt k (by simpa using hkk)).1; omega), hF.block k (by omega) (by simp; omega), hg3.block k (by omega) (by simp), ho1 k hk]
  have hos : W'.os = w.os ∧ W'.tape = w.tape ∧ W'.output = w.output := by
   rw [hF'.os, hF.os, hg3.os, hF'.tape, hF.tape, hg3.tape, hF'.output, hF.output, hg3.output, hw1]
   exact ⟨rfl, rfl, rfl⟩
  obtain ⟨m1, -, -⟩ := hs.mem.grow hos.1 hos.2.1 hos.2.2 (by have := hF'.size; have := hF.size; have := hg3.size; omega) hall
  refine wpIn_ret ⟨.inr rfl, .inr ⟨D, ?_, ?_, ?_⟩, ρ, ⟨22, ls [(6, sA (signT s leaf msg))], lh [], blt 1⟩, ⟨m1, fun t v ht => ?_, ?_, rfl⟩, Ret.one rfl (.rfl _) trivial hnA⟩
  ·
   rw [put_defers, put_defers]
   show mark D :: a3.defers = _
   rw [hd3]
  ·
   refine (hF'.block D (Array.getElem?_eq_some_iff.1 hDd).1 fun hk => ?_).trans hDd
   obtain ⟨o, ho, hc⟩ := own_cells hB.own (by simpa using hk)
   rw [hDd] at ho
   cases ho
   cases hc
  ·
   have := hs.mem.size
   have := hg3.size
   omega
  ·
   have hm' := ls_some ht
   simp only [List.mem_singleton, Prod.mk.injEq] at hm'
   obtain ⟨rfl, rfl⟩ := hm'
   exact ⟨.string (B (vals xs).flatten), by simp [bare, Act.put, hsz3], by rw [hres]; exact .v _⟩
  simp [bare, Act.put, hsz3]
end Go.Proofs.YtpnbpcopdckgpaaGreatDoor.E
end
