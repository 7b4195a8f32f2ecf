import Derived.Test.YtcojfnjpcpochaaDoorZed128eac
section
namespace Go.Proofs.YtcojfnjpcpochaaDoor.E
open Go Go.RowKit Go.Proofs.YtcojfnjpcpochaaDoor.V

theorem chain_mono {P : Program} {G : List (Nat × Array Value)} {ops : Array Oper} {K K' : AS → Prop} (hk : ∀ σ, K σ → K' σ) : ∀ {l : List Oper} {ds : List St} {σ : AS}, Chain P G ops K l ds σ → Chain P G ops K' l ds σ
  | [], [], _, h => hk _ h
  | _ :: _, _ :: _, _, h => ⟨h.1, chain_mono hk h.2⟩
  | [], _ :: _, _, h => h.elim
  | _ :: _, [], _, h => h.elim
def mark (D : Nat) : Deferred := { target := .collected D, args := #[] }
def Marked (A : Amb) (a : Act) (w : World) : Prop := a.defers = [] ∨ ∃ D, a.defers = [mark D] ∧ w.heap[D]? = some (.deferred (some [])) ∧ A.w.heap.size ≤ D
def RetM (A : Amb) (rs : List Tmp) (res : AV) (H' : List (Option AO)) (e : Exit) (a : Act) (w : World) : Prop :=
  (e = .normal ∨ e = .ret) ∧ Marked A a w ∧ ∃ ρ σ, Sat A ρ σ (bare a) w ∧ Ret A rs res H' .ret σ
structure WPM (P : Program) (A : Amb) (rs : List Tmp) (res : AV) (H' : List (Option AO)) (c : Code) (σ : AS) : Prop where
  run : ∀ ρ a w, Sat A ρ σ a w → c.wp P (RetM A rs res H') a w
structure WPS (P : Program) (A : Amb) (rs : List Tmp) (res : AV) (H' : List (Option AO)) (y z : Code) (σ : AS) : Prop where
  run : ∀ ρ a w, Sat A ρ σ a w → y.wp P (Exit.then (z.wp P (RetM A rs res H')) (RetM A rs res H')) a w

theorem retM_of {A : Amb} {rs : List Tmp} {res : AV} {H' : List (Option AO)} {e : Exit} {ρ : Env} {σ : AS} {a : Act} {w : World} (h : Ret A rs res H' e σ) (hs : Sat A ρ σ a w) : RetM A rs res H' e a w := by
  have hb : Sat A ρ σ (bare a) w := by rw [bare_of hs.defers]; exact hs
  cases e with
  | normal => exact ⟨.inl rfl, .inl hs.defers, ρ, σ, hb, h⟩
  | ret => exact ⟨.inr rfl, .inl hs.defers, ρ, σ, hb, h⟩
  | _ => exact h.elim

section
variable {P : Program} {G : List (Nat × Array Value)} {A : Amb} {rs : List Tmp} {res : AV} {H' : List (Option AO)} {σ : AS}
theorem WPM.seq {x y : Code} (h : WP P A x (thn (fun σ' => WPM P A rs res H' y σ') (Ret A rs res H')) σ) : WPM P A rs res H' (.seq x y) σ := by
  constructor
  intro ρ a w hs
  refine wp_seq (wp_mono (h.run ρ a w hs) ?_)
  rintro e a' w' ⟨σ', ρ', q, s⟩
  cases e with
  | normal => exact WPM.run q ρ' a' w' s
  | _ => exact retM_of q s
theorem WPM.seqS {x y z : Code} (h : WP P A x (thn (fun σ' => WPS P A rs res H' y z σ') (Ret A rs res H')) σ) : WPM P A rs res H' (.seq (.seq x y) z) σ := by
  constructor
  intro ρ a w hs
  refine wp_seq (wp_seq (wp_mono (h.run ρ a w hs) ?_))
  rintro e a' w' ⟨σ', ρ', q, s⟩
  cases e with
  | normal => exact WPS.run q ρ' a' w' s
  | _ => exact retM_of q s
theorem wp_endM {ρ : Env} {a : Act} {w : World} {D : Nat} (hs : Sat A ρ σ a w) (hG : A.G = G) (hD : w.heap[D]? = some (.deferred (some []))) (hA : A.w.heap.size ≤ D) {id : Nat} {l : List Oper} (hdf : noDf l = true)
    (hc : ∀ A' : Amb, A'.G = G → A'.nA = A.nA → Ch P G l false (Ret A' rs res H' .ret) [] l σ) : ((Code.region id l.toArray false).seq .ret).wp P (RetM A rs res H') { a with defers := mark D :: a.defers } w := by
  refine wp_seq ((wpIn_wide (n := 0)).1 ?_)
  have hs1 : Sat (A.now σ.h ρ w) ρ σ (bare { a with defers := mark D :: a.defers }) w := by
    have e : bare { a with defers := mark D :: a.defers } = a := bare_of hs.defers ▸ rfl
    rw [e]
    exact ⟨hs.mem.now, fun t v ht => by obtain ⟨x, hx, hv⟩ := hs.slots t v ht; exact ⟨x, hx, hv.mono (fun b o hb => hb.now) (Env.le_refl _) (fun _ _ _ => rfl)⟩, hs.nt, hs.defers⟩
  refine wpIn_rg Wide.w hdf (A := A.now σ.h ρ w) hG (hc (A.now σ.h ρ w) hG rfl) hs1 ?_
  rintro ρ1 σ1 a1 w1 ⟨σ2, hE, h1, h2, h3⟩ hs2 hfr
  show Code.ret.wp P (RetM A rs res H') a1 w1
  obtain ⟨ρ2, hs3⟩ := hE ρ1 _ w1 hs2
  refine wp_ret ⟨.inr rfl, .inr ⟨D, ?_, ?_, hA⟩, ρ2, σ2, ⟨hs.mem.back hs3.mem, fun t v ht => ?_, hs3.nt, rfl⟩, σ2, fun ρ' a' w' h => ⟨ρ', h⟩, h1, h2, h3⟩
  · rw [hfr.1]
    show mark D :: a.defers = _
    rw [hs.defers]
  · refine (hs3.mem.block D (Array.getElem?_eq_some_iff.1 hD).1 ?_).trans hD
    rintro ⟨i, ob, hi, hb⟩
    obtain ⟨o', ho', hc'⟩ := (hs.mem.heap i ob hi).cells hb
    rw [hD] at ho'
    cases ho'
    cases hc'
  · obtain ⟨x, hx, hv⟩ := hs3.slots t v ht
    exact ⟨x, hx, hv.mono (fun b o hb => hb.back hs.mem) (Env.le_refl _) (fun _ _ _ => rfl)⟩

theorem WPS.range {g : Operand} {p v b0 ia ib ir id : Nat} {ty : TypeId} {pos : String} {aft : Array Edge} {l l2 : List Oper} {f : FuncId} {caps : List AV} {α : Type} {enc : α → Value} {L : List α} (hG : A.G = G) {m : Nat} (S : List (Nat × AV)) (H : List α → List (Nat × AO)) (M : Nat)
    (hE : SEnt A σ ⟨m, ls S, lh (H []), blt M⟩) (hg : (⟨m, ls S, lh (H []), blt M⟩ : AS).ev g = some (.fn (.func f) [] caps)) (hseq : SeqC P G f caps enc L)
    (hp : p < m) (hv : v < m) (hf : slOff S p v l = true) (hdf : noDf l = true) (hdf2 : noDf l2 = true)
    (hbody : ∀ (A' : Amb) (pre : List α) (x : α), A'.G = G → A'.nA = A.nA → pre.length < L.length → Ch P G l false (fun σ' => SEnt A' σ' ⟨m, ls S, lh (H (pre ++ [x])), blt M⟩) [] l ⟨m, upd (upd (ls S) p (some (.v (enc x)))) v (some (.v (enc x))), lh (H pre), blt M⟩)
    (hend : ∀ A' : Amb, A'.G = G → A'.nA = A.nA → Ch P G l2 false (Ret A' rs res H' .ret) [] l2 ⟨m, ls S, lh (H L), blt M⟩) :
    WPS P A rs res H' (.block b0 (Code.rangeFunc g #[p] (.region ia #[⟨some v, .assign (.tmp p), ty, pos, aft, none⟩] false) (.block ib (.region ir l.toArray false)))) ((Code.region id l2.toArray false).seq .ret) σ := by
  constructor
  intro ρ a w hs
  obtain ⟨ρ0, hs0⟩ := hE ρ a w hs
  refine wp_block (wp_rangeF hG hs0 hg hseq (fun pre => lh (H pre)) (fun _ => blt M) rfl rfl hp hv hf hdf (fun A' pre x h1 h2 h3 => ?_) fun D ρ' W hD hA hsW => wp_endM hsW hG hD hA hdf2 hend)
  obtain ⟨ds, k1, k2⟩ := (hbody A' pre x h1 h2 h3).e
  exact ⟨ds, chain_mono (fun σ' h => ⟨_, h, rfl, fun _ _ h => h, rfl, rfl⟩) k1, fun h => nomatch h⟩
end

theorem ret_val {A : Amb} {ρ' : Env} {σ' : AS} {a : Act} {w : World} (hs' : Sat A ρ' σ' a w) : ∀ {rs : List Tmp} {res : AV}, RetV rs res σ' →
    VRel (Nh A σ'.h ρ' w) ρ' w res (match rs with | [t] => a.tmps.getD t undef | rs => .tuple (rs.map fun t => a.tmps.getD t undef).toArray)
  | [t], res, h3 => hs'.ev (x := .tmp t) h3
  | [], res, h3 => by
    obtain ⟨vs, hres, hl, hsl⟩ := h3
    subst hres
    obtain rfl : vs = [] := List.eq_nil_of_length_eq_zero hl
    exact .tup [] _ rfl (fun i c x hc hx => by simp at hc)
  | t :: u :: r, res, h3 => by
    obtain ⟨vs, hres, hl, hsl⟩ := h3
    subst hres
    refine .tup vs _ (by simp [hl]) (fun i c x hc hx => ?_)
    have hlt : i < (t :: u :: r).length := by rw [← hl]; exact (List.getElem?_eq_some_iff.1 hc).1
    have hget : (t :: u :: r)[i]? = some ((t :: u :: r)[i]) := List.getElem?_eq_getElem hlt
    have := hs'.ev (x := .tmp _) (hsl.get hget hc)
    have hx' : x = a.eval (.tmp (t :: u :: r)[i]) := by
      rw [List.getElem?_toArray, List.getElem?_map, hget] at hx
      simp at hx
      rw [← hx]
      simp [Act.eval]
    rw [hx']
    exact this

theorem FC.of_wpm {P : Program} {G : List (Nat × Array Value)} {f : FuncId} {fn : Func} {c : Code} {args : List AV} {H H' : List (Option AO)} {res : AV} (rs : List Tmp) (hf : P.funcs[f]? = some fn) (hname : (fn.name == "runtime.NumGoroutine") = false) (hb : fn.body = some c)
    (hn' : Nat.ble args.length fn.ntmps = true) (hr : fn.results = (rs.map ResultVar.tmp).toArray) (belA : AV.belL (blt H.length) args) (bH : E.belH (blt H.length) H) (len : H.length ≤ H'.length)
    (h : ∀ A : Amb, A.G = G → A.nA = H.length → (∀ b, A.B b → ∃ i ob, hl H i = some ob ∧ ob.at_ A.ρ i b) → WPM P A rs res H' c (start fn.ntmps args H)) : FC P G f args H res H' := by
  have hn : args.length ≤ fn.ntmps := Nat.le_of_ble_eq_true hn'
  refine ⟨⟨fn, c, hf, hname, hb⟩, belA, bH, len, ?_⟩
  intro A vs hG hnA HS hAB hsz hargs
  have hs : Sat A A.ρ (start fn.ntmps args H) { tmps := vs ++ Array.replicate (fn.ntmps - vs.size) undef, defers := [] } A.w := by
    refine ⟨HS, ?_, ?_, rfl⟩
    · intro t v ht
      have ht' : args[t]? = some v := ht
      have hlt := (List.getElem?_eq_some_iff.1 ht').1
      have hx : vs[t]? = some vs[t] := Array.getElem?_eq_getElem (by omega)
      refine ⟨vs[t], ?_, hargs t v _ ht' hx⟩
      rw [Array.getElem?_append_left (by omega)]
      exact hx
    · simp [start]; omega
  refine (callsIn_wide (n := 0)).1 (callsIn_of_wp_marks hf hb trivial (wpIn_wide.2 (wp_mono ((h A hG hnA hAB).run A.ρ _ A.w hs) ?_)) rfl)
  rintro e a w' ⟨he, hM, ρ, σ, hs1, σ', hE, h1, h2, h3⟩
  obtain ⟨ρ', hs'⟩ := hE ρ _ w' hs1
  have hv := ret_val hs' h3
  have hm := hs'.mem
  rw [h1] at hv hm
  rw [h2] at hm
  have fin : LeavesInM Fence.wide 0 P fn a.tmps (fun e w' => ∃ v ρ', e = .returned v ∧ HSat A ρ' (hl H') (blt H'.length) w' ∧ VRel (Nh A (hl H') ρ' w') ρ' w' res v) a.defers .returning w' := by
    rcases hM with hd | ⟨D, hd, hD, hA⟩
    · rw [hd]
      exact ⟨_, run_results P fn a.tmps w' rs hr, _, ρ', rfl, hm, hv⟩
    · rw [hd]
      refine ⟨by simp, .inl ⟨D, _, rfl, run_takeDeferred hD, ?_⟩⟩
      obtain ⟨g1, g2, -⟩ := hm.grown (grownBy_putObj' w' D (.deferred none)) (fun r e => by cases e; exact ⟨hA, _, hD, rfl⟩)
      exact ⟨_, run_results P fn a.tmps _ rs hr, _, ρ', rfl, g1, g2 _ _ hv⟩
  rcases he with rfl | rfl
  · exact fin
  · exact fin
end Go.Proofs.YtcojfnjpcpochaaDoor.E
end
section
namespace Go.Proofs.YtcojfnjpcpochaaDoor.E
open Go Go.RowKit Go.Proofs.YtcojfnjpcpochaaDoor.V
attribute [local go_sem] B_size B_append B_extract mk_B B_toList take_drop_len List.length_drop List.length_take sgn32 sgn64 add32 sub32 mul32 add64 sub64 mul64 mul64_8 and32 or32 xor32 and64 or64 xor64 shl32_run shr32_run shl64_run shr64_run not32 not32' xor32_all w_u32_u8 w_u64_u8 w_i64_u8 w_u8_u32 w_u8_u64 w_u32_u64 w_u64_u32 w_u8_u8 w_u32_u32 w_u64_u64
attribute [local go_sem ↓] run_index_B' add32 sub32 mul32 add64 sub64 mul64 mul64_8 and32 or32 xor32 and64 or64 xor64 shl32_run shr32_run shl64_run shr64_run not32 not32' xor32_all w_u32_u8 w_u64_u8 w_i64_u8 w_u8_u32 w_u8_u64 w_u32_u64 w_u64_u32 w_u8_u8 w_u32_u32 w_u64_u64 w_u64_nat w_u32_nat w_u8_nat
set_option maxRecDepth 4000
attribute [local irreducible] sum tag input laidN wstep walkT secretT
section
variable {G : List (Nat × Array Value)}
theorem alwaysC_fc (c at' : Int) : FC Tryd.prog G 73 [.v (.int .i64 c), .sptr [.v (.int .i64 at')]] [] (.v (.int .i64 at')) [] := by
  refine FC.of_wp [3] Tryd.func73 rfl rfl rfl rfl (by first | trivial | (simp; first | done | fail) | exact ⟨trivial, hbel _⟩) (by first | trivial | (simp; first | done | fail) | exact ⟨trivial, hbel _⟩) (by exact Nat.le_of_ble_eq_true rfl) ?_
  intro A hG hnA hAB
  unfold start
  refine WP.rs hG ?_
  refine Ch.asg rfl rfl ?_
  refine Ch.nil ?_
  refine WP.rs hG ?_
  refine Ch.pu gdN (by exact ⟨rfl, trivial⟩) (OpS.loadS rfl rfl) trivial rfl ?_
  refine Ch.asg rfl rfl ?_
  refine Ch.nil ?_
  refine WP.ret (Ret.one rfl (by first | exact .rfl _ | exact .nil | exact .of_eq (by simp; first | done | fail) | exact AV.wk.sh (by simp; first | done | fail) | exact .untip _ _ _) (by first | trivial | simp [AV.bel]) hnA)
theorem always_fc (at' : Int) : FC Tryd.prog G 46 [.v (.int .i64 at')] [] (.fn (.func 73) [] [.sptr [.v (.int .i64 at')]]) [] := by
  refine FC.of_wp [2] Tryd.func46 rfl rfl rfl rfl (by first | trivial | (simp; first | done | fail) | exact ⟨trivial, hbel _⟩) (by first | trivial | (simp; first | done | fail) | exact ⟨trivial, hbel _⟩) (by exact Nat.le_of_ble_eq_true rfl) ?_
  intro A hG hnA hAB
  unfold start
  refine WP.rs hG ?_
  refine Ch.pu gdN (by exact ⟨rfl, trivial⟩) (OpS.boxS) trivial rfl ?_
  refine Ch.asg rfl rfl ?_
  refine Ch.nil ?_
  refine WP.rs hG ?_
  refine Ch.mf gdN (by repeat (first | exact EvL.nil | (apply EvL.cons; exact rfl))) rfl ?_
  refine Ch.asg rfl rfl ?_
  refine Ch.nil ?_
  refine WP.ret (Ret.one rfl (by first | exact .rfl _ | exact .nil | exact .of_eq (by simp; first | done | fail) | exact AV.wk.sh (by simp; first | done | fail) | exact .untip _ _ _) (by first | trivial | simp [AV.bel]) hnA)
theorem signC_fc (c : Nat) (d : List Nat) (hc : c < d.length) : FC Tryd.prog G 49 [.v (.int .i64 (c : Int)), .sptr [.sl none d.length (d.map nA)]] [] (nA (nget d c)) [] := by
  refine FC.of_wp [3] Tryd.func49 rfl rfl rfl rfl (by first | trivial | (simp; first | done | fail) | exact ⟨trivial, hbel _⟩) (by first | trivial | (simp; first | done | fail) | exact ⟨trivial, hbel _⟩) (by exact Nat.le_of_ble_eq_true rfl) ?_
  intro A hG hnA hAB
  unfold start
  refine WP.rs hG ?_
  refine Ch.asg rfl rfl ?_
  refine Ch.nil ?_
  refine WP.rs hG ?_
  refine Ch.pu gdN (by exact ⟨rfl, trivial⟩) (OpS.loadS rfl rfl) trivial rfl ?_
  refine Ch.mv rfl rfl ?_
  refine Ch.pu gdN (by exact ⟨rfl, rfl, trivial⟩) (OpS.indexM rfl rfl rfl (by first | with_reducible exact Int.toNat_natCast _ | with_reducible exact tnLit _ _ | with_reducible exact tnLitA _ _ | with_reducible exact tnL _ | with_reducible exact tnA _ _ | with_reducible exact tnM _ _ | with_reducible exact tnMA _ _ _ | exact rfl) (by omega) (by omega) (by first | rfl | (simp; done) | omega)) trivial rfl ?_
  refine Ch.pu gdN (by exact ⟨rfl, trivial⟩) (OpS.loadS rfl rfl) trivial rfl ?_
  refine Ch.asg rfl rfl ?_
  refine Ch.nil ?_
  refine WP.ret (Ret.one rfl (by first | exact .rfl _ | exact .nil | exact .of_eq (by simp; first | done | fail) | exact AV.wk.sh (by simp; first | done | fail) | exact .untip _ _ _) (by first | trivial | simp [AV.bel]) hnA)
theorem fromD_fc (c : Nat) (d : List Nat) (hc : c < d.length) : FC Tryd.prog G 66 [.v (.int .i64 (c : Int)), .sptr [.sl none d.length (d.map nA)]] [] (nA (nget d c)) [] := by
  refine FC.of_wp [3] Tryd.func66 rfl rfl rfl rfl (by first | trivial | (simp; first | done | fail) | exact ⟨trivial, hbel _⟩) (by first | trivial | (simp; first | done | fail) | exact ⟨trivial, hbel _⟩) (by exact Nat.le_of_ble_eq_true rfl) ?_
  intro A hG hnA hAB
  unfold start
  refine WP.rs hG ?_
  refine Ch.asg rfl rfl ?_
  refine Ch.nil ?_
  refine WP.rs hG ?_
  refine Ch.pu gdN (by exact ⟨rfl, trivial⟩) (OpS.loadS rfl rfl) trivial rfl ?_
  refine Ch.mv rfl rfl ?_
  refine Ch.pu gdN (by exact ⟨rfl, rfl, trivial⟩) (OpS.indexM rfl rfl rfl (by first | with_reducible exact Int.toNat_natCast _ | with_reducible exact tnLit _ _ | with_reducible exact tnLitA _ _ | with_reducible exact tnL _ | with_reducible exact tnA _ _ | with_reducible exact tnM _ _ | with_reducible exact tnMA _ _ _ | exact rfl) (by omega) (by omega) (by first | rfl | (simp; done) | omega)) trivial rfl ?_
  refine Ch.pu gdN (by exact ⟨rfl, trivial⟩) (OpS.loadS rfl rfl) trivial rfl ?_
  refine Ch.asg rfl rfl ?_
  refine Ch.nil ?_
  refine WP.ret (Ret.one rfl (by first | exact .rfl _ | exact .nil | exact .of_eq (by simp; first | done | fail) | exact AV.wk.sh (by simp; first | done | fail) | exact .untip _ _ _) (by first | trivial | simp [AV.bel]) hnA)
theorem fromC_fc (c : Nat) (s : Txw) (hc : c < 10) (hs' : s.length = 160) : FC Tryd.prog G 65 [.v (.int .i64 (c : Int)), .sptr [sA s]] [] (sA ((s.drop (16 * c)).take 16)) [] := by
  refine FC.of_wp [3] Tryd.func65 rfl rfl rfl rfl (by first | trivial | (simp; first | done | fail) | exact ⟨trivial, hbel _⟩) (by first | trivial | (simp; first | done | fail) | exact ⟨trivial, hbel _⟩) (by exact Nat.le_of_ble_eq_true rfl) ?_
  intro A hG hnA hAB
  unfold start
  refine WP.rs hG ?_
  refine Ch.asg rfl rfl ?_
  refine Ch.nil ?_
  refine WP.rs hG ?_
  refine Ch.pu gdN (by exact ⟨rfl, trivial⟩) (OpS.loadS rfl rfl) trivial rfl ?_
  refine Ch.mv rfl rfl ?_
  refine Ch.pu gdN (by exact ⟨rfl, rfl, trivial⟩) (OpS.int rfl (by first | exact wr64 (by omega) | exact rfl)) trivial rfl ?_
  refine Ch.mv rfl rfl ?_
  refine Ch.pu gdN (by exact ⟨rfl, rfl, trivial⟩) (OpS.int rfl (by first | exact wr64 (by omega) | exact rfl)) trivial rfl ?_
  refine Ch.pu gdN (by exact ⟨rfl, rfl, trivial⟩) (OpS.int rfl (by first | exact wr64 (by omega) | exact rfl)) trivial rfl ?_
  refine Ch.pu gdN (by exact ⟨rfl, rfl, rfl, trivial⟩) (OpS.sliceS rfl (m' := 16 * c) (n' := 16 * c + 16) (by omega) (by omega) (by omega) (by omega) (by omega)) trivial rfl ?_
  refine Ch.asg rfl rfl ?_
  refine Ch.nil ?_
  exact WP.ret (Ret.one rfl (.of_eq (by rw [Nat.add_sub_cancel_left]; rfl)) trivial hnA)
theorem secretC_fc (hm : ShaIn G) (c leaf : Int) (s : Txw) (hv : s.length ≤ 140737488355264) : FC Tryd.prog G 70 [.v (.int .i64 c), .sptr [sA s], .sptr [.v (.int .i64 leaf)]] [] (sA (secretT s leaf c)) [] := by
  have hin := in3_len s (laidN leaf) (laidN c) 3
  rw [laidN_length, laidN_length] at hin
  have hval := value_fc hm 3 [s, laidN leaf, laidN c] (by omega)
  rw [← secretT_eq] at hval
  refine FC.of_wp [4] Tryd.func70 rfl rfl rfl rfl (by first | trivial | (simp; first | done | fail) | exact ⟨trivial, hbel _⟩) (by first | trivial | (simp; first | done | fail) | exact ⟨trivial, hbel _⟩) (by exact Nat.le_of_ble_eq_true rfl) ?_
  intro A hG hnA hAB
  unfold start
  refine WP.rs hG ?_
  refine Ch.asg rfl rfl ?_
  refine Ch.nil ?_
  refine WP.rsD (by kernel_rfl) hG ?_
  refine Ch.pu gdN (by exact ⟨rfl, trivial⟩) (OpS.loadS rfl rfl) trivial rfl ?_
  refine Ch.pu gdN (by exact ⟨rfl, trivial⟩) (OpS.loadS rfl rfl) trivial rfl ?_
  refine Ch.callP (laid_fc leaf) gdN (by repeat (first | exact EvL.nil | (apply EvL.cons; exact rfl))) (by exact (And.intro (by first | exact .rfl _ | exact .untip _ _ _ | exact .nil | exact .func _ | exact AV.wk.sh (renL_s _ _) | exact AV.wk.sh (by simp; first | done | fail)) trivial)) (by rfl) rfl ?_
  refine Ch.mv rfl rfl ?_
  refine Ch.callP (laid_fc c) gdN (by repeat (first | exact EvL.nil | (apply EvL.cons; exact rfl))) (by exact (And.intro (by first | exact .rfl _ | exact .untip _ _ _ | exact .nil | exact .func _ | exact AV.wk.sh (renL_s _ _) | exact AV.wk.sh (by simp; first | done | fail)) trivial)) (by rfl) rfl ?_
  refine Ch.pup gdN (by repeat (first | exact EvP.nil | (apply EvP.cons; exact rfl))) (OpS.slice1 (ys := ([s, laidN leaf, laidN c] : List Txw).map sA) rfl rfl rfl rfl rfl rfl (by rfl) rfl (by rfl)) rfl ?_
  refine Ch.callP (hval) gdN (by repeat (first | exact EvL.nil | (apply EvL.cons; exact rfl))) (by exact (And.intro (by first | exact .rfl _ | exact .untip _ _ _ | exact .nil | exact .func _ | exact AV.wk.sh (renL_s _ _) | exact AV.wk.sh (by simp; first | done | fail)) (And.intro (by first | exact .rfl _ | exact .untip _ _ _ | exact .nil | exact .func _ | exact AV.wk.sh (renL_s _ _) | exact AV.wk.sh (by simp; first | done | fail)) trivial))) (by rfl) rfl ?_
  refine Ch.asg rfl rfl ?_
  refine Ch.nilD ?_ (by kernel_rfl)
  refine WP.ret (Ret.one rfl (by first | exact .rfl _ | exact .nil | exact .of_eq (by simp; first | done | fail) | exact AV.wk.sh (by simp; first | done | fail) | exact .untip _ _ _) (by first | trivial | simp [AV.bel]) hnA)
theorem secrets_fc (s : Txw) (leaf : Int) : FC Tryd.prog G 45 [sA s, .v (.int .i64 leaf)] [] (.fn (.func 70) [] [.sptr [sA s], .sptr [.v (.int .i64 leaf)]]) [] := by
  refine FC.of_wp [4] Tryd.func45 rfl rfl rfl rfl (by first | trivial | (simp; first | done | fail) | exact ⟨trivial, hbel _⟩) (by first | trivial | (simp; first | done | fail) | exact ⟨trivial, hbel _⟩) (by exact Nat.le_of_ble_eq_true rfl) ?_
  intro A hG hnA hAB
  unfold start
  refine WP.rs hG ?_
  refine Ch.pu gdN (by exact ⟨rfl, trivial⟩) (OpS.boxS) trivial rfl ?_
  refine Ch.pu gdN (by exact ⟨rfl, trivial⟩) (OpS.boxS) trivial rfl ?_
  refine Ch.asg rfl rfl ?_
  refine Ch.nil ?_
  refine WP.rs hG ?_
  refine Ch.mf gdN (by repeat (first | exact EvL.nil | (apply EvL.cons; exact rfl))) rfl ?_
  refine Ch.asg rfl rfl ?_
  refine Ch.nil ?_
  refine WP.ret (Ret.one rfl (by first | exact .rfl _ | exact .nil | exact .of_eq (by simp; first | done | fail) | exact AV.wk.sh (by simp; first | done | fail) | exact .untip _ _ _) (by first | trivial | simp [AV.bel]) hnA)
theorem walks_fc (f t s : AV) (hf : AV.ren (rn []) f = f) (ht : AV.ren (rn []) t = t) (hs' : AV.ren (rn []) s = s) (bf : f.bel (blt 0)) (bt : t.bel (blt 0)) (bs : s.bel (blt 0)) (cf : cellsA f = [f]) (ct : cellsA t = [t]) (cs : cellsA s = [s]) :
    FC Tryd.prog G 44 [s, f, t] [] (.fn (.func 68) [] [.sptr [f], .sptr [t], .sptr [s]]) [] := by
  refine FC.of_wp [6] Tryd.func44 rfl rfl rfl rfl ⟨bs, bf, bt, trivial⟩ trivial (by exact Nat.le_of_ble_eq_true rfl) ?_
  intro A hG hnA hAB
  unfold start
  refine WP.rs hG ?_
  refine Ch.pu gdN (by exact ⟨rfl, trivial⟩) (OpS.boxS) trivial rfl ?_
  refine Ch.pu gdN (by exact ⟨rfl, trivial⟩) (OpS.boxS) trivial rfl ?_
  refine Ch.pu gdN (by exact ⟨rfl, trivial⟩) (OpS.boxS) trivial rfl ?_
  refine Ch.asg rfl rfl ?_
  refine Ch.nil ?_
  refine WP.rs hG ?_
  refine Ch.mf gdN (by repeat (first | exact EvL.nil | (apply EvL.cons; exact rfl))) rfl ?_
  refine Ch.asg rfl rfl ?_
  refine Ch.nil ?_
  refine WP.ret (Ret.one rfl (.of_eq ?_) ⟨trivial, ⟨bf, trivial⟩, ⟨bt, trivial⟩, ⟨bs, trivial⟩, trivial⟩ hnA)
  show AV.fn _ [] [.sptr (cellsA f), .sptr (cellsA t), .sptr (cellsA s)] = AV.fn _ [] [.sptr [AV.ren (rn []) f], .sptr [AV.ren (rn []) t], .sptr [AV.ren (rn []) s]]
  rw [hf, ht, hs', cf, ct, cs]
end
end Go.Proofs.YtcojfnjpcpochaaDoor.E
end
section
namespace Go.Proofs.YtcojfnjpcpochaaDoor.E
open Go Go.RowKit Go.Proofs.YtcojfnjpcpochaaDoor.V

theorem VRel.noE {N : Nat → Nat → Prop} {ρ ρ' : Env} {w : World} {av : AV} {x : Value} (h : VRel N ρ w av x) : av.bel (blt 0) → VRel N ρ' w av x := by
  have hno : ∀ i, blt 0 i = true → False := fun i hi => by have := blt_iff.1 hi; omega
  induction h with
  | v x => exact fun _ => .v x
  | agg cs vs hs _ ih => exact fun hb => .agg cs vs hs fun i c x hc hx => ih i c x hc hx (belL_get hb hc)
  | tup cs vs hs _ ih => exact fun hb => .tup cs vs hs fun i c x hc hx => ih i c x hc hx (belL_get hb hc)
  | sl o n cs a cap vals hc _ ho hn hz hm ih =>
    exact fun hb => .sl o n cs a cap vals hc (fun i c hc => ih i c hc (belL_get hb.2 hc)) (fun k hk => (hno k (hb.1 k hk)).elim) hn hz hm
  | arr id off n cap b hb hn hm => exact fun hb => (hno _ hb).elim
  | ptr id off b hb => exact fun hb => (hno _ hb).elim
  | sptr cs b off vals hc _ ih => exact fun hb => .sptr cs b off vals hc fun i c hc => ih i c hc (belL_get hb hc)
  | fn f fs cs vs us hs _ hs' _ ih ih' => exact fun hb => .fn f fs cs vs us hs (fun i c x hc hx => ih i c x hc hx (belL_get hb.1 hc)) hs' (fun i c x hc hx => ih' i c x hc hx (belL_get hb.2 hc))

def AW (G : List (Nat × Array Value)) (N : Nat → Nat → Prop) (W : World) : Amb := ⟨W, N, fun _ _ => False, fun _ => False, 0, G, noE⟩
section
variable {G : List (Nat × Array Value)} {N : Nat → Nat → Prop} {W W' : World}
structure Stand (G : List (Nat × Array Value)) (N : Nat → Nat → Prop) (W : World) : Prop where
  lt : ∀ b o, N b o → b < W.heap.size
  tab : ∀ x ∈ G, ∃ T, W.heap[x.1]? = some (.cells x.2 T (0, 0))
theorem AW.hsat (h : Stand G N W) : HSat (AW G N W) noE (hl []) (blt 0) W := by
  have hno : ∀ i ob, hl [] i = some ob → False := fun i ob h => by have := (hl_some h).1; simp at this
  exact ⟨rfl, rfl, rfl, Nat.le_refl _, fun _ _ _ => rfl, fun _ _ _ => rfl, fun b o hb => h.lt b o hb, fun _ _ _ h => h, fun _ _ h => h, fun x hx => ⟨h.tab x hx, fun h => h⟩, (fun _ _ h => by cases h), (fun _ _ h => by cases h), (fun i hi => by cases hi), (fun _ _ h => by cases h), (fun _ _ h => by cases h),
      fun i ob h => (hno i ob h).elim, fun i ob _ _ h => (hno i ob h).elim, fun i ob _ h => (hno i ob h).elim, fun i j oi oj b h => (hno i oi h).elim⟩
def Sl (N : Nat → Nat → Prop) (W : World) (S : List (Nat × AV)) (a : Act) : Prop := ∀ t v, ls S t = some v → ∃ x, a.tmps[t]? = some x ∧ VRel N noE W v x
theorem Sl.sat {S : List (Nat × AV)} {a : Act} (hs : Sl N W S a) (h : Stand G N W) {m : Nat} (hn : a.tmps.size = m) : Sat (AW G N W) noE ⟨m, ls S, hl [], blt 0⟩ (bare a) W := by
  have hno : ∀ i ob, hl [] i = some ob → False := fun i ob h => by have := (hl_some h).1; simp at this
  exact ⟨AW.hsat h, fun t v ht => by obtain ⟨x, hx, hv⟩ := hs t v ht; exact ⟨x, hx, hv.mono (fun b o hb => ⟨h.lt b o hb, .inl hb, fun i ob hi => (hno i ob hi).elim⟩) (Env.le_refl _) (fun _ _ _ => rfl)⟩, hn, rfl⟩
theorem Sl.kept {S : List (Nat × AV)} {a : Act} (hs : Sl N W S a) (hk : KpN N G W W') : Sl N W' S a := fun t v ht => by
  obtain ⟨x, hx, hv⟩ := hs t v ht
  exact ⟨x, hx, hv.mono (fun _ _ h => h) (Env.le_refl _) hk.1⟩
def offL (S : List (Nat × AV)) (l : List Oper) : Bool := S.all fun x => l.all fun o => match o.dst with
  | some d => !(Nat.beq d x.1)
  | none => true
theorem Sl.frm {S : List (Nat × AV)} {a a' : Act} {l : List Oper} (hs : Sl N W S a) (hf : Frm l a a') (h : offL S l = true) : Sl N W S a' := fun t v ht => by
  obtain ⟨x, hx, hv⟩ := hs t v ht
  refine ⟨x, (hf.2 t fun o ho e => ?_).trans hx, hv⟩
  have := List.all_eq_true.1 (List.all_eq_true.1 h _ (ls_some ht)) o ho
  rw [e] at this
  simp at this
theorem Sl.put {S : List (Nat × AV)} {a : Act} (hs : Sl N W S a) {d : Nat} {y : Value} (h : (S.all fun x => !(Nat.beq d x.1)) = true) : Sl N W S (a.put (some d) y) := fun t v ht => by
  obtain ⟨x, hx, hv⟩ := hs t v ht
  refine ⟨x, (put_frame fun e => ?_).trans hx, hv⟩
  cases e
  have := List.all_eq_true.1 h _ (ls_some ht)
  simp at this
theorem Sl.raw {S : List (Nat × AV)} {a : Act} (hs : Sl N W S a) {t : Nat} {x : Value} (h : a.tmps[t]? = some x) : Sl N W ((t, .v x) :: S) a := fun t' v ht => by
  simp only [ls] at ht
  cases hb : Nat.beq t' t with
  | true =>
    rw [hb] at ht
    cases ht
    rw [Nat.beq_eq] at hb
    subst hb
    exact ⟨x, h, .v x⟩
  | false => rw [hb] at ht; exact hs t' v ht
theorem Sl.less {S S' : List (Nat × AV)} {a : Act} (hs : Sl N W S a) (h : ∀ t v, ls S' t = some v → ls S t = some v) : Sl N W S' a := fun t v ht => hs t v (h t v ht)
theorem Sat.rawslot {A : Amb} {ρ : Env} {σ : AS} {a : Act} {w : World} {t : Nat} {x : Value} (hs : Sat A ρ σ (bare a) w) (h : σ.s t = some (.v x)) : a.tmps[t]? = some x := by
  obtain ⟨y, hy, hv⟩ := hs.slots t _ h
  rw [hv.raw] at hy
  exact hy
theorem AW.next {ρ : Env} {h : Nat → Option AO} {u : Nat → Bool} (H : HSat (AW G N W) ρ h u W') : W.grownBy W' none ∧ KpN N G W W' :=
  ⟨⟨H.os, H.tape, H.output, H.size, fun k hk _ => H.block k hk (fun h => h)⟩, H.keep, fun x hx => by
    obtain ⟨⟨T, h1⟩, h2⟩ := H.tabs x hx
    exact H.block _ (Array.getElem?_eq_some_iff.1 h1).1 h2⟩
def Ns (N : Nat → Nat → Prop) (w : World) (b o : Nat) : Prop := N b o ∧ ∃ x, w.cell? ⟨b, o, none⟩ = some x
theorem VRel.ns {ρ : Env} {av : AV} {x : Value} (h : VRel N ρ W av x) : VRel (Ns N W) ρ W av x := h.mono2 (fun b o x hn hx => ⟨hn, x, hx⟩) (Env.le_refl _) (fun _ _ _ _ h => h)
theorem KpN.ns {w : World} (h : KpN N G W W') : KpN (Ns N w) G W W' := ⟨fun b o hn => h.1 b o hn.1, h.2⟩
theorem Stand.next {w : World} (h : Stand G (Ns N w) w) (hk : KpN (Ns N w) G w W) : Stand G (Ns N w) W := by
  refine ⟨fun b o hn => ?_, fun x hx => by rw [hk.2 x hx]; exact h.tab x hx⟩
  obtain ⟨y, hy⟩ := hn.2
  have : W.cell? ⟨b, o, none⟩ = some y := (hk.1 b o hn).trans hy
  obtain ⟨o', ho, -⟩ := cells_of_cell this
  exact (Array.getElem?_eq_some_iff.1 ho).1
theorem KpN.trans {A B C : World} (h1 : KpN N G A B) (h2 : KpN N G B C) : KpN N G A C := ⟨fun b o hn => (h2.1 b o hn).trans (h1.1 b o hn), fun x hx => (h2.2 x hx).trans (h1.2 x hx)⟩
theorem KpN.of_below {w : World} (h : Stand G N w) (hb : Below w.heap.size w W) : KpN N G w W := by
  refine ⟨fun b o hn => hb.cell (p := ⟨b, o, none⟩) (h.lt b o hn), fun x hx => hb.block _ ?_⟩
  obtain ⟨T, hT⟩ := h.tab x hx
  exact (Array.getElem?_eq_some_iff.1 hT).1
structure It (G : List (Nat × Array Value)) (N : Nat → Nat → Prop) (w : World) (J : World → Prop) (m : Nat) (S : List (Nat × AV)) (a : Act) (W : World) : Prop where
  sl : Sl (Ns N w) W S a
  n : a.tmps.size = m
  d : a.defers = []
  j : J W
  kp : KpN (Ns N w) G w W
variable {w : World} {J : World → Prop} {m : Nat} {S : List (Nat × AV)} {a : Act}
theorem It.sat (h : It G N w J m S a W) (hs : Stand G (Ns N w) w) : Sat (AW G (Ns N w) W) noE ⟨m, ls S, hl [], blt 0⟩ (bare a) W := h.sl.sat (hs.next h.kp) h.n
theorem It.go (h : It G N w J m S a W) {ρ : Env} {σ : AS} {a1 : Act} {W1 : World} {l : List Oper} (hs : Sat (AW G (Ns N w) W) ρ σ (bare a1) W1) (hn : σ.n = m) (hf : Frm l a a1) (ho : offL S l = true) (hJ : ∀ A B, J A → A.grownBy B none → J B) : It G N w J m S a1 W1 := by
  obtain ⟨h1, h2⟩ := AW.next hs.mem
  exact ⟨(h.sl.kept h2).frm hf ho, hs.nt.trans hn, hf.1.trans h.d, hJ _ _ h.j h1, h.kp.trans h2⟩
theorem It.yielded' (h : It G N w J m S a W) {J' : World → Prop} (hj : J' W') (hk : KpN N G W W') : It G N w J' m S a W' :=
  ⟨h.sl.kept hk.ns, h.n, h.d, hj, h.kp.trans hk.ns⟩
theorem It.put (h : It G N w J m S a W) {d : Nat} {y : Value} (hd : (S.all fun x => !(Nat.beq d x.1)) = true) : It G N w J m S (a.put (some d) y) W :=
  ⟨h.sl.put hd, by simp [Act.put, h.n], (put_defers _ _ _).trans h.d, h.j, h.kp⟩
theorem It.less (h : It G N w J m S a W) {S' : List (Nat × AV)} (hl : ∀ t v, ls S' t = some v → ls S t = some v) : It G N w J m S' a W := ⟨h.sl.less hl, h.n, h.d, h.j, h.kp⟩
theorem It.raw (h : It G N w J m S a W) {t : Nat} {x : Value} (hx : a.tmps[t]? = some x) : It G N w J m ((t, .v x) :: S) a W := ⟨h.sl.raw hx, h.n, h.d, h.j, h.kp⟩
theorem It.get (h : It G N w J m S a W) {t : Nat} {x : Value} (hx : ls S t = some (.v x)) : a.tmps[t]? = some x := by
  obtain ⟨y, hy, hv⟩ := h.sl t _ hx
  rw [hv.raw] at hy
  exact hy
end
theorem eval_of {a : Act} {t : Nat} {x : Value} (h : a.tmps[t]? = some x) : a.eval (.tmp t) = x := by simp [Act.eval, Array.getD_eq_getD_getElem?, h]

section
variable {F : Fence} {n : Nat} {P : Program} {ops : Array Oper} {Q : Exit → Act → World → Prop} {a : Act} {W : World} {dst : Option Tmp} {ty : TypeId} {pos : String} {aft : Array Edge} {gd : Option (Nat × Bool)}
theorem wpListIn_one {o : Oper} {rest : List Oper} (hg : o.guard = none) (h : o.wpIn F n P a W (wpListIn F n P ops Q rest) Q) : wpListIn F n P ops Q (o :: rest) a W := by
  unfold wpListIn
  rw [if_pos (by simp [Region.wanted, hg])]
  exact h
theorem wpIn_yield {c x : Operand} {ats : Array TypeId} {l : Nat} {v : Value} (hc : a.eval c = .func (.yield l) #[] #[]) (hx : a.eval x = v) {R : Ending → World → Prop} (hy : YieldAt Fence.wide (n - 1) P l #[v] W R) {K : Act → World → Prop}
    (hK : ∀ e W', R e W' → ∃ b, e = .returned (.bool b) ∧ K (a.put dst (.bool b)) W') : Oper.wpIn Fence.wide n P ⟨dst, .call ⟨.value c, #[x], ats⟩, ty, pos, aft, gd⟩ a W K Q := by
  obtain ⟨fn, tm, as', bo, hy, hR⟩ := hy
  refine ⟨fun _ _ => trivial, ?_⟩
  have hrun : ((⟨dst, .call ⟨.value c, #[x], ats⟩, ty, pos, aft, gd⟩ : Oper).semAt Fence.wide.round a.eval).run P W = .ok (.round l fn tm as' bo) W := by
    show (do let d ← Deferred.ofValue (a.eval c) (#[x].map a.eval); invoke d.target d.args : Sem Next).run P W = _
    rw [hc]
    simp only [List.map_toArray, List.map_cons, List.map_nil, hx]
    exact hy
  rw [hrun, Oper.uponIn_round]
  refine ⟨fun h => (by cases h), hR.mono ?_⟩
  rintro e W' he
  obtain ⟨b, rfl, h⟩ := hK e W' he
  exact h
theorem wpIn_not {x : Operand} {t : TypeId} {b : Bool} (hx : a.eval x = .bool b) {K : Act → World → Prop} (h : K (a.put dst (.bool (!b))) W) : Oper.wpIn Fence.wide n P ⟨dst, .unOp .not t x, ty, pos, aft, gd⟩ a W K Q := by
  refine ⟨fun _ _ => trivial, ?_⟩
  have hrun : ((⟨dst, .unOp .not t x, ty, pos, aft, gd⟩ : Oper).semAt Fence.wide.round a.eval).run P W = .ok (.value (.bool (!b))) W := by
    show (do pure (Next.value (← (Op.unary .not (a.eval x)))) : Sem Next).run P W = _
    refine runv ?_
    rw [hx]
    rfl
  rw [hrun, Oper.uponIn_value]
  exact h
end
end Go.Proofs.YtcojfnjpcpochaaDoor.E
end
section
namespace Go.Proofs.YtcojfnjpcpochaaDoor.E
open Go Go.RowKit Go.Proofs.YtcojfnjpcpochaaDoor.V
attribute [local go_sem] B_size B_append B_extract mk_B B_toList take_drop_len List.length_drop List.length_take sgn32 sgn64 add32 sub32 mul32 add64 sub64 mul64 mul64_8 and32 or32 xor32 and64 or64 xor64 shl32_run shr32_run shl64_run shr64_run not32 not32' xor32_all w_u32_u8 w_u64_u8 w_i64_u8 w_u8_u32 w_u8_u64 w_u32_u64 w_u64_u32 w_u8_u8 w_u32_u32 w_u64_u64
attribute [local go_sem ↓] run_index_B' add32 sub32 mul32 add64 sub64 mul64 mul64_8 and32 or32 xor32 and64 or64 xor64 shl32_run shr32_run shl64_run shr64_run not32 not32' xor32_all w_u32_u8 w_u64_u8 w_i64_u8 w_u8_u32 w_u8_u64 w_u32_u64 w_u64_u32 w_u8_u8 w_u32_u32 w_u64_u64 w_u64_nat w_u32_nat w_u8_nat
set_option maxRecDepth 4000
attribute [local irreducible] sum tag input laidN wstep walkT secretT
abbrev Tx16 := { x : Txw // x.length ≤ 16 }
def encT (x : Tx16) : Value := .string (B x.1)
theorem range_map_succ {α : Type} (f : Nat → α) (k : Nat) : (List.range (k + 1)).map f = (List.range k).map f ++ [f k] := by simp [List.range_succ]
theorem WkL.refl : ∀ ys : List AV, WkL ys ys
  | [] => trivial
  | y :: ys => ⟨.rfl y, WkL.refl ys⟩
theorem wkl_caps {π : Nat → Nat} (x : AV) (hx : AV.ren π x = x) {cs : List AV} (h : AV.renL π cs = cs) : WkL ([x] ++ cs) ((x :: cs).map (AV.ren π)) := by
  rw [List.map_cons, hx, ← renL_eq, h]
  exact WkL.refl _
set_option maxHeartbeats 1000000 in
theorem walks_seq {G : List (Nat × Array Value)} (hm : ShaIn G) {fF fT fS : FuncId} {cF cT cS : List AV} {fr to : Nat → Int} {fst : Nat → Txw} {Lf : Nat → Tx16}
    (h1 : ∀ c : Nat, c < 10 → FC Tryd.prog G fF (.v (.int .i64 (c : Int)) :: cF) [] (.v (.int .i64 (fr c))) []) (h2 : ∀ c : Nat, c < 10 → FC Tryd.prog G fT (.v (.int .i64 (c : Int)) :: cT) [] (.v (.int .i64 (to c))) [])
    (h3 : ∀ c : Nat, c < 10 → FC Tryd.prog G fS (.v (.int .i64 (c : Int)) :: cS) [] (sA (fst c)) []) (b1 : ∀ c, -9223372036854775808 ≤ fr c ∧ fr c ≤ 9223372036854775807) (b2 : ∀ c, -9223372036854775808 ≤ to c ∧ to c ≤ 9223372036854775807)
    (b3 : ∀ c, (fst c).length ≤ 140737488355264) (hL : ∀ c : Nat, c < 10 → (Lf c).1 = walkT c (fr c) (to c) (fst c))
    (r1 : AV.renL (pi [] 0) cF = cF) (r2 : AV.renL (pi [] 0) cT = cT) (r3 : AV.renL (pi [] 0) cS = cS) :
    SeqC Tryd.prog G 68 [.sptr [.fn (.func fF) [] cF], .sptr [.fn (.func fT) [] cT], .sptr [.fn (.func fS) [] cS]] encT ((List.range 10).map Lf) := by
  refine ⟨⟨_, _, Tryd.func68, rfl, rfl⟩, ?_⟩
  intro n w N ρ us hN hT hus hcap l J Jx W hW hJ hJx hY h0
  obtain ⟨S0, hS0⟩ : ∃ S0 : List (Nat × AV), S0 = [(0, .v (.func (.yield l) #[] #[])), (1, .sptr [.fn (.func fF) [] cF]), (2, .sptr [.fn (.func fT) [] cT]), (3, .sptr [.fn (.func fS) [] cS])] := ⟨_, rfl⟩
  have bF := (h1 0 (by decide)).belA.2
  have bT := (h2 0 (by decide)).belA.2
  have bS := (h3 0 (by decide)).belA.2
  have hSt : Stand G (Ns N w) w := ⟨fun b o hn => hN b o hn.1, hT⟩
  have hJ' : ∀ pre A B, J pre A → A.grownBy B none → J pre B := fun pre A B hj hg => hJ pre A B none hj hg (fun r e => by cases e)
  obtain ⟨x1, x2, x3, rfl⟩ : ∃ x1 x2 x3, us = #[x1, x2, x3] := by
    have hs : us.size = 3 := hus
    refine ⟨us[0], us[1], us[2], Array.ext (by simp [hs]) fun i hi _ => ?_⟩
    match i, hi with
    | 0, _ => rfl
    | 1, _ => rfl
    | 2, _ => rfl
    | i + 3, hi => omega
  refine callsIn_of_wp Tryd.func68 rfl trivial ?_ rfl
  have hI0 : It G N w (J []) 24 S0 { tmps := (#[.func (.yield l) #[] #[]] ++ #[x1, x2, x3]) ++ Array.replicate (24 - (#[Value.func (.yield l) #[] #[]] ++ #[x1, x2, x3]).size) undef, defers := [] } W := by
    refine ⟨?_, by simp, rfl, h0, KpN.of_below hSt hW⟩
    have hsl : Sl (Ns N w) w S0 { tmps := (#[.func (.yield l) #[] #[]] ++ #[x1, x2, x3]) ++ Array.replicate (24 - (#[Value.func (.yield l) #[] #[]] ++ #[x1, x2, x3]).size) undef, defers := [] } := by
      subst hS0
      intro t v ht
      have hm' := ls_some ht
      simp only [List.mem_cons, Prod.mk.injEq, List.not_mem_nil, or_false] at hm'
      rcases hm' with ⟨rfl, rfl⟩ | ⟨rfl, rfl⟩ | ⟨rfl, rfl⟩ | ⟨rfl, rfl⟩
      · exact ⟨.func (.yield l) #[] #[], by simp, .v _⟩
      · exact ⟨x1, by simp, ((hcap 0 _ x1 rfl rfl).ns).noE ⟨⟨trivial, bF⟩, trivial⟩⟩
      · exact ⟨x2, by simp, ((hcap 1 _ x2 rfl rfl).ns).noE ⟨⟨trivial, bT⟩, trivial⟩⟩
      · exact ⟨x3, by simp, ((hcap 2 _ x3 rfl rfl).ns).noE ⟨⟨trivial, bS⟩, trivial⟩⟩
    exact hsl.kept (KpN.of_below hSt hW)
  refine wpIn_seq (wpIn_rg Wide.w rfl (A := AW G (Ns N w) W) rfl (K := fun σ => σ.n = 24 ∧ σ.s 6 = some (.v (.int .i64 ((0 : Nat) : Int)))) ?_ (hI0.sat hSt) ?_)
  · subst hS0
    refine Ch.mv rfl rfl ?_
    exact Ch.nil ⟨rfl, rfl⟩
  rintro ρ1 σ1 a1 W1 ⟨n1, k1⟩ s1 f1
  have hI1 : It G N w (J []) 24 ((6, .v (.int .i64 ((0 : Nat) : Int))) :: S0) a1 W1 := (hI0.go s1 n1 f1 (by subst hS0; rfl) (hJ' _)).raw (s1.rawslot k1)
  refine wpIn_block (wpIn_loop (fun a W => ∃ k : Nat, k ≤ 10 ∧ It G N w (J ((List.range k).map Lf)) 24 ((6, .v (.int .i64 (k : Int))) :: S0) a W) (fun a _ => 10 - (intOf (a.eval (.tmp 6))).toNat) ⟨0, by decide, hI1⟩ ?_)
  clear hI0 hI1 s1 f1 n1 k1
  rintro a2 W2 ⟨k, hk, hI2⟩
  have e6 : a2.eval (.tmp 6) = .int .i64 (k : Int) := eval_of (hI2.get rfl)
  refine wpIn_seq (wpIn_rg Wide.w rfl (A := AW G (Ns N w) W2) rfl (K := fun σ => σ.n = 24 ∧ σ.s 7 = some (.v (.bool (decide ((k : Int) < 10))))) ?_ (hI2.sat hSt) ?_)
  · subst hS0
    refine Ch.pu gdN (by exact ⟨rfl, rfl, trivial⟩) (OpS.int rfl (by first | exact wr64 (by omega) | exact rfl)) trivial rfl ?_
    exact Ch.nil ⟨rfl, rfl⟩
  rintro ρ3 σ3 a3 W3 ⟨n3, k3⟩ s3 f3
  have hI3 := hI2.go s3 n3 f3 (by subst hS0; rfl) (hJ' _)
  refine wpIn_seq (wpIn_cond (eval_of (s3.rawslot k3)) ?_)
  by_cases hk10 : k < 10
  · have hd : decide ((k : Int) < 10) = true := by simp; omega
    rw [hd]
    refine wpIn_skip ?_
    refine wpIn_seq (wpIn_block (wpIn_seq (wpIn_rg Wide.w rfl (A := AW G (Ns N w) W3) rfl (K := fun σ => σ.n = 24 ∧ σ.s 5 = some (.v (.int .i64 (k : Int)))) ?_ (hI3.sat hSt) ?_)))
    · subst hS0
      refine Ch.mv rfl rfl ?_
      refine Ch.asg rfl rfl ?_
      exact Ch.nil ⟨rfl, rfl⟩
    rintro ρ4 σ4 a4 W4 ⟨n4, k4⟩ s4 f4
    have hI4 := (hI3.go s4 n4 f4 (by subst hS0; rfl) (hJ' _)).raw (s4.rawslot k4)
    have hw := walk_fc hm k (fr k) (to k) (fst k) (b3 k) (b1 k) (b2 k)
    rw [← hL k hk10] at hw
    have g1 := h1 k hk10
    have g2 := h2 k hk10
    have g3 := h3 k hk10
    have w1 := wkl_caps (.v (.int .i64 (k : Int))) rfl r1
    have w2 := wkl_caps (.v (.int .i64 (k : Int))) rfl r2
    have w3 := wkl_caps (.v (.int .i64 (k : Int))) rfl r3
    refine wpIn_seq (wpIn_rgT Wide.w 12 (by kernel_rfl) (by rfl) (by kernel_rfl) (A := AW G (Ns N w) W4) rfl (K := fun σ => σ.n = 24 ∧ σ.s 9 = some (.v (.func (.yield l) #[] #[])) ∧ σ.s 20 = some (.v (encT (Lf k)))) ?_ (hI4.sat hSt) ?_)
    · subst hS0
      refine Ch.mv rfl rfl ?_
      refine Ch.mv rfl rfl ?_
      refine Ch.pu gdN (by exact ⟨rfl, trivial⟩) (OpS.loadS rfl rfl) trivial rfl ?_
      refine Ch.mv rfl rfl ?_
      refine Ch.callF (g1) gdN (EvL.cons rfl (EvL.cons rfl EvL.nil)) (w1) (by rfl) rfl ?_
      refine Ch.pu gdN (by exact ⟨rfl, trivial⟩) (OpS.loadS rfl rfl) trivial rfl ?_
      refine Ch.mv rfl rfl ?_
      refine Ch.callF (g2) gdN (EvL.cons rfl (EvL.cons rfl EvL.nil)) (w2) (by rfl) rfl ?_
      refine Ch.pu gdN (by exact ⟨rfl, trivial⟩) (OpS.loadS rfl rfl) trivial rfl ?_
      refine Ch.mv rfl rfl ?_
      refine Ch.callF (g3) gdN (EvL.cons rfl (EvL.cons rfl EvL.nil)) (w3) (by rfl) rfl ?_
      refine Ch.callP (hw) gdN (by repeat (first | exact EvL.nil | (apply EvL.cons; exact rfl))) (by exact (And.intro (by first | exact .rfl _ | exact .untip _ _ _ | exact .nil | exact .func _ | exact AV.wk.sh (renL_s _ _) | exact AV.wk.sh (by simp; first | done | fail)) (And.intro (by first | exact .rfl _ | exact .untip _ _ _ | exact .nil | exact .func _ | exact AV.wk.sh (renL_s _ _) | exact AV.wk.sh (by simp; first | done | fail)) (And.intro (by first | exact .rfl _ | exact .untip _ _ _ | exact .nil | exact .func _ | exact AV.wk.sh (renL_s _ _) | exact AV.wk.sh (by simp; first | done | fail)) (And.intro (by first | exact .rfl _ | exact .untip _ _ _ | exact .nil | exact .func _ | exact AV.wk.sh (renL_s _ _) | exact AV.wk.sh (by simp; first | done | fail)) trivial))))) (by rfl) rfl ?_
      exact Ch.nilD ⟨rfl, rfl, rfl⟩ (by kernel_rfl)
    rintro ρ5 σ5 a5 W5 ⟨n5, k9, k20⟩ s5 f5
    have hI5 := hI4.go s5 n5 f5 (by subst hS0; rfl) (hJ' _)
    simp only [List.drop_succ_cons, List.drop_zero]
    refine wpListIn_one rfl (wpIn_yield (eval_of (s5.rawslot k9)) (eval_of (s5.rawslot k20)) (hY _ (Lf k) W5 hI5.j (by simpa using hk10)) ?_)
    have hsz : a5.tmps.size = 24 := hI5.n
    rintro e W6 (⟨rfl, hj6, hk6⟩ | ⟨rfl, hj6⟩)
    · refine ⟨true, rfl, wpListIn_one rfl (wpIn_not (b := true) (eval_of (by simp [Act.put, hsz])) ?_)⟩
      rw [← range_map_succ] at hj6
      have hI6 := (((hI5.yielded' (J' := J ((List.range (k + 1)).map Lf)) hj6 hk6).put (d := 21) (y := .bool true) (by subst hS0; rfl)).put (d := 22) (y := .bool (!true)) (by subst hS0; rfl))
      show Code.wpIn _ _ _ (Code.cond _ _ _) _ _ _
      refine wpIn_cond (t := false) (eval_of (by simp [Act.put, hsz])) ?_
      refine wpIn_skip ?_
      show Code.wpIn _ _ _ (Code.region _ _ _) _ _ _
      have hI7 : It G N w (J ((List.range (k + 1)).map Lf)) 24 ((6, .v (.int .i64 (k : Int))) :: S0) _ W6 := hI6.less (by
        intro t v ht
        simp only [ls] at ht ⊢
        cases h5 : Nat.beq t 5 with
        | true =>
          rw [Nat.beq_eq] at h5
          subst h5
          subst hS0
          cases ht
        | false => exact ht)
      refine wpIn_rg Wide.w rfl (A := AW G (Ns N w) W6) rfl (K := fun σ => σ.n = 24 ∧ σ.s 6 = some (.v (.int .i64 (((k + 1 : Nat) : Nat) : Int)))) ?_ (hI7.sat hSt) ?_
      · subst hS0
        refine Ch.pu gdN (by exact ⟨rfl, rfl, trivial⟩) (OpS.int rfl (by first | exact wr64 (by omega) | exact rfl)) trivial rfl ?_
        refine Ch.mv rfl rfl ?_
        exact Ch.nil ⟨rfl, rfl⟩
      rintro ρ8 σ8 a8 W8 ⟨n8, k8⟩ s8 f8
      have hI8 := ((hI7.less (S' := S0) (fun t v ht => by
        simp only [ls]
        cases h6 : Nat.beq t 6 with
        | true =>
          rw [Nat.beq_eq] at h6
          subst h6
          subst hS0
          cases ht
        | false => exact ht)).go s8 n8 f8 (by subst hS0; rfl) (hJ' _)).raw (s8.rawslot k8)
      show (∃ k : Nat, _ ∧ _) ∧ _
      refine ⟨⟨k + 1, by omega, hI8⟩, ?_⟩
      rw [e6, eval_of (s8.rawslot k8)]
      simp only [intOf]
      omega
    · refine ⟨false, rfl, wpListIn_one rfl (wpIn_not (b := false) (eval_of (by simp [Act.put, hsz])) ?_)⟩
      show Code.wpIn _ _ _ (Code.cond _ _ _) _ _ _
      refine wpIn_cond (t := true) (eval_of (by simp [Act.put, hsz])) ?_
      refine wpIn_ret ?_
      refine ⟨(put_defers _ _ _).trans ((put_defers _ _ _).trans hI5.d), _, run_results _ _ _ _ [] rfl, ⟨_, rfl⟩, .inr ⟨_, ?_, hj6⟩⟩
      rw [← range_map_succ]
      obtain ⟨d, hd⟩ : ∃ d, 10 = k + 1 + d := ⟨10 - (k + 1), by omega⟩
      show List.map Lf (List.range (k + 1)) <+: List.map Lf (List.range 10)
      rw [hd, List.range_add (n := k + 1) (m := d), List.map_append]
      exact List.prefix_append _ _
  · obtain rfl : k = 10 := by omega
    have hd : decide (((10 : Nat) : Int) < 10) = false := rfl
    rw [hd]
    refine wpIn_exit ?_
    simp only [Exit.then, Exit.inBlock, ↓reduceIte]
    exact ⟨hI3.d, _, run_results _ _ _ _ [] rfl, ⟨_, rfl⟩, .inl ⟨_, rfl, hI3.j⟩⟩
end Go.Proofs.YtcojfnjpcpochaaDoor.E
end
section
namespace Go.Proofs.YtcojfnjpcpochaaDoor.E
open Go Go.RowKit Go.Proofs.YtcojfnjpcpochaaDoor.V
attribute [local go_sem] B_size B_append B_extract mk_B B_toList take_drop_len List.length_drop List.length_take sgn32 sgn64 add32 sub32 mul32 add64 sub64 mul64 mul64_8 and32 or32 xor32 and64 or64 xor64 shl32_run shr32_run shl64_run shr64_run not32 not32' xor32_all w_u32_u8 w_u64_u8 w_i64_u8 w_u8_u32 w_u8_u64 w_u32_u64 w_u64_u32 w_u8_u8 w_u32_u32 w_u64_u64
attribute [local go_sem ↓] run_index_B' add32 sub32 mul32 add64 sub64 mul64 mul64_8 and32 or32 xor32 and64 or64 xor64 shl32_run shr32_run shl64_run shr64_run not32 not32' xor32_all w_u32_u8 w_u64_u8 w_i64_u8 w_u8_u32 w_u8_u64 w_u32_u64 w_u64_u32 w_u8_u8 w_u32_u32 w_u64_u64 w_u64_nat w_u32_nat w_u8_nat
set_option maxRecDepth 4000
attribute [local irreducible] sum tag input laidN wstep walkT secretT joinL endsL digitsT
attribute [local irreducible] pubF signF fromF
end Go.Proofs.YtcojfnjpcpochaaDoor.E
end
section
namespace Go.Proofs.YtcojfnjpcpochaaDoor.E
open Go Go.RowKit Go.Proofs.YtcojfnjpcpochaaDoor.V
attribute [local go_sem] B_size B_append B_extract mk_B B_toList take_drop_len List.length_drop List.length_take sgn32 sgn64 add32 sub32 mul32 add64 sub64 mul64 mul64_8 and32 or32 xor32 and64 or64 xor64 shl32_run shr32_run shl64_run shr64_run not32 not32' xor32_all w_u32_u8 w_u64_u8 w_i64_u8 w_u8_u32 w_u8_u64 w_u32_u64 w_u64_u32 w_u8_u8 w_u32_u32 w_u64_u64
attribute [local go_sem ↓] run_index_B' add32 sub32 mul32 add64 sub64 mul64 mul64_8 and32 or32 xor32 and64 or64 xor64 shl32_run shr32_run shl64_run shr64_run not32 not32' xor32_all w_u32_u8 w_u64_u8 w_i64_u8 w_u8_u32 w_u8_u64 w_u32_u64 w_u64_u32 w_u8_u8 w_u32_u32 w_u64_u64 w_u64_nat w_u32_nat w_u8_nat
set_option maxRecDepth 4000
theorem el_lt (msg : Txw) (c : Nat) : nget (digitsT msg) c < 16 := digits_lt (tag 1 [msg]) c
attribute [local irreducible] sum tag input laidN wstep walkT secretT digitsT
def vals (l : List Tx16) : List Txw := l.map (·.1)
theorem vals_append (a b : List Tx16) : vals (a ++ b) = vals a ++ vals b := List.map_append
theorem vals_length (l : List Tx16) : (vals l).length = l.length := List.length_map ..
theorem vals_one (x : Tx16) : vals [x] = [x.1] := rfl
theorem vals_in (l : List Tx16) (h : l.length ≤ 10) : (input 4 (vals l)).length ≤ 140737488355328 := by
  have := inL_len 4 (vals l) 16 fun p hp => by
    obtain ⟨x, _, rfl⟩ := List.mem_map.1 hp
    exact x.2
  rw [vals_length] at this
  omega
theorem key_fc {G : List (Nat × Array Value)} (hm : ShaIn G) {gf : FuncId} {caps : List AV} {L : List Tx16} (hseq : SeqC Tryd.prog G gf caps encT L) (hbel : ∀ u, AV.belL u caps) (hren : ∀ π, AV.renL π caps = caps) (hL : L.length ≤ 10) :
    FC Tryd.prog G 43 [.fn (.func gf) [] caps] [] (sA (tag 4 (vals L))) [] := by
  have htag := tag_fc hm 4 (vals L) (vals_in L hL)
  refine FC.of_wpm [2] Tryd.func43 rfl rfl rfl rfl ⟨⟨trivial, hbel _⟩, trivial⟩ trivial (by exact Nat.le_of_ble_eq_true rfl) ?_
  intro A hG hnA hAB
  unfold start
  refine WPM.seq ?_
  refine WP.rg hG ?_
  refine Ch.asg rfl rfl ?_
  refine Ch.nil ?_
  refine WPM.seq ?_
  refine WP.rg hG ?_
  refine Ch.al gdN (by exact trivial) (OpS.alloc 0 rfl rfl rfl) (by first | exact trivial | exact ⟨rfl, trivial⟩) (by first | exact trivial | exact ⟨rfl, trivial⟩ | exact ⟨rfl, rfl, trivial⟩) rfl ?_
  refine Ch.nil ?_
  refine WPM.seqS ?_
  refine WP.rg hG ?_
  refine Ch.mv rfl rfl ?_
  refine Ch.nil ?_
  refine WPS.range hG ([(3, .ptr 0 0), (5, .fn (.func gf) [] caps)]) (fun pre => [(0, .cells 22 [.sl (some 1) (vals pre).length ((vals pre).map sA)]), (1, .tip 9 1 (vals pre).length)]) (2) ((SEnt.nilCell (id := 0) (off := 0) 1 9 1 rfl rfl rfl rfl).trans (Ent.of [] ?_ ?_ ?_ ?_).se) rfl (hseq) (by decide) (by decide) (by rfl) (by rfl) (by rfl) ?_ ?_
  · exact (fun i hi => by rw [hnA] at hi; simp only [List.length_cons, List.length_nil] at hi ⊢; first | exact absurd hi (Nat.not_lt_zero _) | (revert i; decide))
  · (repeat (first | exact trivial | (refine And.intro ⟨(by first | trivial | (simp; first | done | fail) | exact ⟨trivial, hbel _⟩), _, rfl, (by first | exact .rfl _ | exact .nil | exact .of_eq (by simp [hren]; first | done | fail) | exact AV.wk.sh (by simp [hren]; first | done | fail) | exact .untip _ _ _)⟩ ?_)))
  · (repeat (first | exact trivial | (refine And.intro ⟨rfl, (by first | trivial | (simp; first | done | fail) | exact ⟨trivial, hbel _⟩), (by first | rfl | (simp [hren]; first | done | fail))⟩ ?_)))
  · simp [rn]
  · intro A' pre x hG' hnA' hlen
    have hG := hG'
    have hnA := hnA'.trans hnA
    have hl := vals_length pre
    refine Ch.pu gdN (by exact ⟨rfl, trivial⟩) (OpS.loadP rfl rfl rfl) ⟨rfl, trivial⟩ rfl ?_
    refine Ch.mv rfl rfl ?_
    refine Ch.pup gdN (by repeat (first | exact EvP.nil | (apply EvP.cons; exact rfl))) (OpS.slice1 (ys := ([x.1] : List Txw).map sA) rfl rfl rfl rfl rfl rfl (by rfl) rfl (by rfl)) rfl ?_
    refine Ch.al gdN (by exact ⟨rfl, rfl, trivial⟩) (OpS.append (sz := 1) (bb := 16) 2 rfl rfl rfl rfl rfl (by decide) (SrcA.sl rfl (by simp)) (by first | (simp; done) | (simp; assumption)) (by simp) (by unfold maxLen; omega) rfl (by omega)) (by first | exact trivial | exact ⟨rfl, trivial⟩) (by first | exact trivial | exact ⟨rfl, trivial⟩ | exact ⟨rfl, rfl, trivial⟩) rfl ?_
    refine Ch.wr gdN (by exact ⟨rfl, rfl, trivial⟩) (OpS.storeP (cs := [.sl (some 1) (vals pre).length ((vals pre).map sA)]) rfl rfl rfl (by simp)) (by first | exact trivial | exact ⟨rfl, trivial⟩) (by first | exact trivial | exact ⟨rfl, trivial⟩ | exact ⟨rfl, rfl, trivial⟩) ?_
    refine Ch.nil ?_
    refine (Ent.of [0, 2] ?_ ?_ ?_ ?_).se
    · exact (fun i hi => by rw [hnA] at hi; simp only [List.length_cons, List.length_nil] at hi ⊢; first | exact absurd hi (Nat.not_lt_zero _) | (revert i; decide))
    · (repeat (first | exact trivial | (refine And.intro ⟨(by first | trivial | (simp; first | done | fail) | exact ⟨trivial, hbel _⟩), _, rfl, (by first | exact .rfl _ | exact .nil | exact .of_eq (by simp [vals_append, vals_one, hren]; first | done | fail) | exact AV.wk.sh (by simp [vals_append, vals_one, hren]; first | done | fail) | exact .untip _ _ _)⟩ ?_)))
    · (repeat (first | exact trivial | (refine And.intro ⟨rfl, (by first | trivial | (simp; first | done | fail) | exact ⟨trivial, hbel _⟩), (by first | rfl | (simp [vals_append, vals_one, hren]; first | done | fail))⟩ ?_)))
    · simp [rn]
  · intro A' hG' hnA'
    have hG := hG'
    have hnA := hnA'.trans hnA
    refine Ch.pu gdN (by exact ⟨rfl, trivial⟩) (OpS.loadP rfl rfl rfl) ⟨rfl, trivial⟩ rfl ?_
    refine Ch.callP (htag) gdN (by repeat (first | exact EvL.nil | (apply EvL.cons; exact rfl))) (by exact (And.intro (by first | exact .rfl _ | exact .untip _ _ _ | exact .nil | exact .func _ | exact AV.wk.sh (renL_s _ _) | exact AV.wk.sh (by simp; first | done | fail)) (And.intro (by first | exact .rfl _ | exact .untip _ _ _ | exact .nil | exact .func _ | exact AV.wk.sh (renL_s _ _) | exact AV.wk.sh (by simp; first | done | fail)) trivial))) (by rfl) rfl ?_
    refine Ch.asg rfl rfl ?_
    refine Ch.nil ?_
    exact Ret.one rfl (by first | exact .rfl _ | exact .nil | exact .of_eq (by simp; first | done | fail) | exact AV.wk.sh (by simp; first | done | fail) | exact .untip _ _ _) (by first | trivial | simp [AV.bel]) hnA
abbrev alwA (n : Int) : AV := .fn (.func 73) [] [.sptr [.v (.int .i64 n)]]
abbrev secA (s : Txw) (leaf : Int) : AV := .fn (.func 70) [] [.sptr [sA s], .sptr [.v (.int .i64 leaf)]]
abbrev showA (s : Txw) : AV := .fn (.func 65) [] [.sptr [sA s]]
abbrev digA (f : FuncId) (d : List Nat) : AV := .fn (.func f) [] [.sptr [.sl none d.length (d.map nA)]]
def tx16 (f : Nat → Txw) (h : ∀ c, (f c).length ≤ 16) (c : Nat) : Tx16 := ⟨f c, h c⟩
theorem vals_range (f : Nat → Txw) (h : ∀ c, (f c).length ≤ 16) (n : Nat) : vals ((List.range n).map (tx16 f h)) = endsL f n := by
  unfold vals endsL
  rw [List.map_map]
  rfl
theorem renL_dig (π : Nat → Nat) (d : List Nat) : AV.renL π [.sptr [.sl none d.length (d.map nA)]] = [.sptr [.sl none d.length (d.map nA)]] := by simp
theorem ren_dig (π : Nat → Nat) (f : FuncId) (d : List Nat) : AV.ren π (digA f d) = digA f d := by simp
theorem bel_dig (u : Nat → Bool) (f : FuncId) (d : List Nat) : (digA f d).bel u := ⟨trivial, ⟨⟨by simp, belL_n _ _⟩, trivial⟩, trivial⟩
theorem i64_nat {n : Nat} (h : n < 16) : -9223372036854775808 ≤ (n : Int) ∧ (n : Int) ≤ 9223372036854775807 := by omega
section
variable {G : List (Nat × Array Value)}
theorem pub_seq (hm : ShaIn G) (s : Txw) (leaf : Int) (hv : s.length ≤ 140737488355264) : SeqC Tryd.prog G 68 [.sptr [alwA 0], .sptr [alwA 15], .sptr [secA s leaf]] encT ((List.range 10).map (tx16 (pubF s leaf) fun c => by rw [pubF_length]; exact Nat.le_refl _)) :=
  walks_seq hm (fr := fun _ => 0) (to := fun _ => 15) (fst := fun c => secretT s leaf c) (fun c _ => alwaysC_fc c 0) (fun c _ => alwaysC_fc c 15) (fun c _ => secretC_fc hm c leaf s hv) (fun _ => by decide) (fun _ => by decide) (fun c => by rw [secretT_length]; decide) (fun c _ => rfl) rfl rfl rfl
theorem from_seq (hm : ShaIn G) (s msg : Txw) (hs : s.length = 160) : SeqC Tryd.prog G 68 [.sptr [digA 66 (digitsT msg)], .sptr [alwA 15], .sptr [showA s]] encT ((List.range 10).map fun c => if h : (fromF s (digitsT msg) c).length ≤ 16 then ⟨fromF s (digitsT msg) c, h⟩ else ⟨[], Nat.zero_le _⟩) :=
  walks_seq hm (fr := fun c => (nget (digitsT msg) c : Nat)) (to := fun _ => 15) (fst := fun c => (s.drop (16 * c)).take 16) (fun c hc => fromD_fc c (digitsT msg) (by rw [digitsT_length]; exact hc)) (fun c _ => alwaysC_fc c 15) (fun c hc => fromC_fc c s hc hs) (fun c => i64_nat (el_lt msg c)) (fun _ => by decide)
    (fun c => by rw [List.length_take, List.length_drop]; omega) (fun c hc => by rw [dif_pos (by rw [fromF_length s _ c hs hc]; exact Nat.le_refl _)]; rfl) (renL_dig _ _) rfl rfl
theorem vals_from (s msg : Txw) (hs : s.length = 160) : vals ((List.range 10).map fun c => if h : (fromF s (digitsT msg) c).length ≤ 16 then (⟨fromF s (digitsT msg) c, h⟩ : Tx16) else ⟨[], Nat.zero_le _⟩) = endsL (fromF s (digitsT msg)) 10 := by
  unfold vals endsL
  rw [List.map_map]
  refine List.map_congr_left fun c hc => ?_
  show (if h : _ then (⟨_, h⟩ : Tx16) else ⟨[], Nat.zero_le _⟩).1 = _
  rw [dif_pos (by rw [fromF_length s _ c hs (by simpa using hc)]; exact Nat.le_refl _)]
theorem pub_fc (hm : ShaIn G) (s : Txw) (leaf : Int) (hv : s.length ≤ 140737488355264) : FC Tryd.prog G 20 [sA s, .v (.int .i64 leaf)] [] (sA (pubT s leaf)) [] := by
  have hwk := walks_fc (G := G) (alwA 0) (alwA 15) (secA s leaf) rfl rfl rfl ⟨trivial, ⟨trivial, trivial⟩, trivial⟩ ⟨trivial, ⟨trivial, trivial⟩, trivial⟩ ⟨trivial, ⟨trivial, trivial⟩, ⟨trivial, trivial⟩, trivial⟩ rfl rfl rfl
  have hkey := key_fc hm (pub_seq hm s leaf hv) (fun u => ⟨⟨⟨trivial, ⟨trivial, trivial⟩, trivial⟩, trivial⟩, ⟨⟨trivial, ⟨trivial, trivial⟩, trivial⟩, trivial⟩, ⟨⟨trivial, ⟨trivial, trivial⟩, ⟨trivial, trivial⟩, trivial⟩, trivial⟩, trivial⟩) (fun π => rfl) (by simp)
  rw [vals_range] at hkey
  refine FC.of_wp [4] Tryd.func20 rfl rfl rfl rfl (by first | trivial | (simp; first | done | fail) | exact ⟨trivial, hbel _⟩) (by first | trivial | (simp; first | done | fail) | exact ⟨trivial, hbel _⟩) (by exact Nat.le_of_ble_eq_true rfl) ?_
  intro A hG hnA hAB
  unfold start
  refine WP.rs hG ?_
  refine Ch.asg rfl rfl ?_
  refine Ch.nil ?_
  refine WP.rs hG ?_
  refine Ch.mv rfl rfl ?_
  refine Ch.mv rfl rfl ?_
  refine Ch.callP (secrets_fc s leaf) gdN (by repeat (first | exact EvL.nil | (apply EvL.cons; exact rfl))) (by exact (And.intro (by first | exact .rfl _ | exact .untip _ _ _ | exact .nil | exact .func _ | exact AV.wk.sh (renL_s _ _) | exact AV.wk.sh (by simp; first | done | fail)) (And.intro (by first | exact .rfl _ | exact .untip _ _ _ | exact .nil | exact .func _ | exact AV.wk.sh (renL_s _ _) | exact AV.wk.sh (by simp; first | done | fail)) trivial))) (by rfl) rfl ?_
  refine Ch.callP (always_fc 0) gdN (by repeat (first | exact EvL.nil | (apply EvL.cons; exact rfl))) (by exact (And.intro (by first | exact .rfl _ | exact .untip _ _ _ | exact .nil | exact .func _ | exact AV.wk.sh (renL_s _ _) | exact AV.wk.sh (by simp; first | done | fail)) trivial)) (by rfl) rfl ?_
  refine Ch.callP (always_fc 15) gdN (by repeat (first | exact EvL.nil | (apply EvL.cons; exact rfl))) (by exact (And.intro (by first | exact .rfl _ | exact .untip _ _ _ | exact .nil | exact .func _ | exact AV.wk.sh (renL_s _ _) | exact AV.wk.sh (by simp; first | done | fail)) trivial)) (by rfl) rfl ?_
  refine Ch.callP (hwk) gdN (by repeat (first | exact EvL.nil | (apply EvL.cons; exact rfl))) (by exact (And.intro (by first | exact .rfl _ | exact .untip _ _ _ | exact .nil | exact .func _ | exact AV.wk.sh (renL_s _ _) | exact AV.wk.sh (by simp; first | done | fail)) (And.intro (by first | exact .rfl _ | exact .untip _ _ _ | exact .nil | exact .func _ | exact AV.wk.sh (renL_s _ _) | exact AV.wk.sh (by simp; first | done | fail)) (And.intro (by first | exact .rfl _ | exact .untip _ _ _ | exact .nil | exact .func _ | exact AV.wk.sh (renL_s _ _) | exact AV.wk.sh (by simp; first | done | fail)) trivial)))) (by rfl) rfl ?_
  refine Ch.callP (hkey) gdN (by repeat (first | exact EvL.nil | (apply EvL.cons; exact rfl))) (by exact (And.intro (by first | exact .rfl _ | exact .untip _ _ _ | exact .nil | exact .func _ | exact AV.wk.sh (renL_s _ _) | exact AV.wk.sh (by simp; first | done | fail)) trivial)) (by rfl) rfl ?_
  refine Ch.asg rfl rfl ?_
  refine Ch.nil ?_
  refine WP.ret (Ret.one rfl (by first | exact .rfl _ | exact .nil | exact .of_eq (by simp; first | done | fail) | exact AV.wk.sh (by simp; first | done | fail) | exact .untip _ _ _) (by first | trivial | simp [AV.bel]) hnA)
theorem from_fc (hm : ShaIn G) (s msg : Txw) (hl : s.length ≤ 9223372036854775807) (hv : msg.length ≤ 140737488355264) : FC Tryd.prog G 42 [sA s, sA msg] [] (sA (fromT s msg)) [] := by
  have hdg := digits_fc (G := G) hm msg hv
  refine FC.of_wp [4] Tryd.func42 rfl rfl rfl rfl (by first | trivial | (simp; first | done | fail) | exact ⟨trivial, hbel _⟩) (by first | trivial | (simp; first | done | fail) | exact ⟨trivial, hbel _⟩) (by exact Nat.le_of_ble_eq_true rfl) ?_
  intro A hG hnA hAB
  unfold start
  refine WP.rs hG ?_
  refine Ch.pu gdN (by exact ⟨rfl, trivial⟩) (OpS.boxS) trivial rfl ?_
  refine Ch.asg rfl rfl ?_
  refine Ch.nil ?_
  refine WP.seq ?_
  refine WP.rs hG ?_
  refine Ch.pu gdN (by exact ⟨rfl, trivial⟩) (OpS.loadS rfl rfl) trivial rfl ?_
  refine Ch.pu gdN (by exact ⟨rfl, trivial⟩) (OpS.lenS rfl) trivial rfl ?_
  refine Ch.pu gdN (by exact ⟨rfl, rfl, trivial⟩) (OpS.int rfl (by first | exact wr64 (by omega) | exact rfl)) trivial rfl ?_
  refine Ch.nil ?_
  refine WP.cond rfl ?_ ?_
  · intro ht
    have h160 : s.length ≠ 160 := by
      intro e
      rw [e] at ht
      exact absurd ht (by decide)
    refine WP.rs hG ?_
    refine Ch.asg rfl rfl ?_
    refine Ch.nil ?_
    exact WP.ret (Ret.one rfl (.of_eq (by rw [show fromT s msg = [] from if_neg h160]; rfl)) trivial hnA)
  · intro ht
    have hs160 : s.length = 160 := by
      simp at ht
      omega
    have hwk := walks_fc (G := G) (digA 66 (digitsT msg)) (alwA 15) (showA s) (ren_dig _ _ _) rfl rfl (bel_dig _ _ _) ⟨trivial, ⟨trivial, trivial⟩, trivial⟩ ⟨trivial, ⟨trivial, trivial⟩, trivial⟩ rfl rfl rfl
    have hkey := key_fc hm (from_seq hm s msg hs160) (fun u => ⟨⟨bel_dig _ _ _, trivial⟩, ⟨⟨trivial, ⟨trivial, trivial⟩, trivial⟩, trivial⟩, ⟨⟨trivial, ⟨trivial, trivial⟩, trivial⟩, trivial⟩, trivial⟩) (fun π => by simp) (by simp)
    rw [vals_from s msg hs160] at hkey
    have hft : fromT s msg = tag 4 (endsL (fromF s (digitsT msg)) 10) := if_pos hs160
    refine WP.skip ?_
    refine WP.rs hG ?_
    refine Ch.mv rfl rfl ?_
    refine Ch.callS (hdg) gdN (by repeat (first | exact EvL.nil | (apply EvL.cons; exact rfl))) (by exact (And.intro (by first | exact .rfl _ | exact .untip _ _ _ | exact .nil | exact .func _ | exact AV.wk.sh (renL_s _ _) | exact AV.wk.sh (by simp; first | done | fail)) trivial)) (by first | rfl | simp) rfl ?_
    refine Ch.al gdN (by exact trivial) (OpS.alloc 0 rfl rfl rfl) (by first | exact trivial | exact ⟨rfl, trivial⟩) (by first | exact trivial | exact ⟨rfl, trivial⟩ | exact ⟨rfl, rfl, trivial⟩) rfl ?_
    refine Ch.wr gdN (by exact ⟨rfl, rfl, trivial⟩) (OpS.storeP (cs := [.v (.slice none 0 0)]) rfl rfl rfl (by simp)) (by first | exact trivial | exact ⟨rfl, trivial⟩) (by first | exact trivial | exact ⟨rfl, trivial⟩ | exact ⟨rfl, rfl, trivial⟩) ?_
    refine Ch.nil ?_
    refine WP.from (SEnt.frz (t := 5) (id := 0) rfl rfl) ?_
    refine WP.rs hG ?_
    refine Ch.mf gdN (by repeat (first | exact EvL.nil | (apply EvL.cons; exact rfl))) rfl ?_
    refine Ch.asg rfl rfl ?_
    refine Ch.nil ?_
    refine WP.rs hG ?_
    refine Ch.mv rfl rfl ?_
    refine Ch.mf gdN (by repeat (first | exact EvL.nil | (apply EvL.cons; exact rfl))) rfl ?_
    refine Ch.callP (always_fc 15) gdN (by repeat (first | exact EvL.nil | (apply EvL.cons; exact rfl))) (by exact (And.intro (by first | exact .rfl _ | exact .untip _ _ _ | exact .nil | exact .func _ | exact AV.wk.sh (renL_s _ _) | exact AV.wk.sh (by simp; first | done | fail)) trivial)) (by rfl) rfl ?_
    refine Ch.callP (hwk) gdN (EvL.cons rfl (EvL.cons rfl (EvL.cons rfl EvL.nil))) (⟨.rfl _, .of_eq (ren_dig _ _ _).symm, .rfl _, trivial⟩) (by rfl) rfl ?_
    refine Ch.callP (hkey) gdN (by repeat (first | exact EvL.nil | (apply EvL.cons; exact rfl))) (by exact (And.intro (by first | exact .rfl _ | exact .untip _ _ _ | exact .nil | exact .func _ | exact AV.wk.sh (renL_s _ _) | exact AV.wk.sh (by simp; first | done | fail)) trivial)) (by rfl) rfl ?_
    refine Ch.asg rfl rfl ?_
    refine Ch.nil ?_
    exact WP.ret (Ret.one rfl (by rw [hft]; exact .rfl _) trivial hnA)
end
end Go.Proofs.YtcojfnjpcpochaaDoor.E
end
