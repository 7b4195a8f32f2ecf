import Derived.Test.YtpnbpcopdckgpaaGreatDoorZa71524db
import Derived.MapKept
import Derived.Test.YtpnbpcopdckgpaaGreatDoorZ1dc047f2
namespace Go.Proofs.YtpnbpcopdckgpaaGreatDoor.E
open Go Go.RowKit V
def fnd (d : TypeDesc) (k : Value) : List (Value × Value) → Nat → Option (Option (Nat × Value))
 | [], _ => some none
 | e :: es, i =>
  match Instr.sameNow d k e.1 with
  | some true => some (some (i, e.2))
  | some false => fnd d k es (i + 1)
  | none => none
theorem fnd_eq (d : TypeDesc) (k : Value) : ∀ (l : List MapEntry) (i : Nat), Instr.findNow d k l i = fnd d k (l.map fun e : MapEntry => (e.key, e.val)) i
 | [], _ => rfl
 | e :: es, i => by
  unfold Instr.findNow
  show _ = (match Instr.sameNow d k e.key with
   | some true => some (some (i, e.val))
   | some false => fnd d k (es.map fun e : MapEntry => (e.key, e.val)) (i + 1)
   | none => none)
  rw [← fnd_eq d k es (i + 1)]
  cases Instr.sameNow d k e.key with
  | none => rfl
  | some b => cases b <;> rfl
theorem HSat.writeM {A : Amb} {ρ : Env} {h : Nat → Option AO} {u : Nat → Bool} {w w' : World} (H : HSat A ρ h u w) {id b clk : Nat} {es es' : List (Value × Value)} {arr' : Array MapEntry} (hi : h id = some (.map es)) (hb : ρ.blk id = some b)
  (os : w'.os = w.os) (tape : w'.tape = w.tape) (output : w'.output = w.output) (size : w.heap.size ≤ w'.heap.size) (other : ∀ k, k < w.heap.size → k ≠ b → w'.heap[k]? = w.heap[k]?) (hnew : w'.heap[b]? = some (.map arr' clk))
  (hes : arr'.toList.map (fun e : MapEntry => (e.key, e.val)) = es') :
  HSat A ρ (upd h id (some (.map es'))) u w' ∧ ∀ av x, VRel (Nh A h ρ w) ρ w av x → VRel (Nh A (upd h id (some (.map es'))) ρ w') ρ w' av x := by
 have hat : ∀ i ob b', upd h id (some (AO.map es')) i = some ob → ob.at_ ρ i b' → ∃ oj, h i = some oj ∧ oj.at_ ρ i b' := by
  intro i ob b' hi' hat
  rcases upd_eq_some hi' with ⟨rfl, he⟩ | ⟨hne, he⟩
  · cases he; exact ⟨_, hi, hat⟩
  exact ⟨_, he, hat⟩
 refine H.next os tape output size (fun i hu => ⟨hu, rfl, rfl⟩) H.usedB H.usedT ?_ ?_ ?_ ?_ ?_ ?_
 ·
  intro k hk hno
  exact other k hk (fun e => hno id _ hi (by rw [e]; exact hb))
 ·
  intro b' o hn
  refine World.cell?_of_block (w := w) (other b' hn.1 (fun e => hn.2.2 id _ hi (by rw [e]; exact hb)))
 ·
  intro i ob b' o hi' hw
  rcases upd_eq_some hi' with ⟨rfl, he⟩ | ⟨hne, he⟩
  · cases he; exact .inl ⟨_, _, hi, hw⟩
  exact .inl ⟨_, _, he, hw⟩
 ·
  intro i ob b' hi' hw
  obtain ⟨oj, hj, hwj⟩ := hat i ob b' hi' hw
  exact .inl ⟨_, oj, hj, hwj⟩
 ·
  intro i j oi oj b' h1 h2 h3 h4
  obtain ⟨_, k1, k2⟩ := hat i oi b' h1 h3
  obtain ⟨_, k3, k4⟩ := hat j oj b' h2 h4
  exact H.sep i j _ _ b' k1 k3 k2 k4
 intro hV i ob hi'
 rcases upd_eq_some hi' with ⟨rfl, he⟩ | ⟨hne, he⟩
 ·
  cases he
  exact ⟨b, arr', clk, hb, hnew, hes⟩
 refine (H.heap i ob he).keep (Env.le_refl ρ) hV fun b' hb' => other b' ((H.heap i ob he).lt hb') ?_
 rintro rfl
 exact hne (H.sep i id ob _ b' he hi hb' hb)
section
variable {P : Program} {G : List (Nat × Array Value)} {dst : Option Tmp} {ty : TypeId} {pos : String} {aft : Array Edge} {gd : Option (Nat × Bool)}
theorem OpS.makeMap {t : TypeId} (id : Nat) : OpS P G ⟨dst, .makeMap t none, ty, pos, aft, gd⟩ [] [] ⟨some (.mp id), [(id, some (.map []))], [id]⟩ := by
 refine OpS.act fun A ρ σ a w _ h hp hu hs => ?_
 let ρ' : Env := ⟨upd ρ.blk id (some w.heap.size), ρ.tip⟩
 have hid : ρ'.blk id = some w.heap.size := upd_same _ _ _
 obtain ⟨h1, h2⟩ := hs.mem.extend (ρ' := ρ') (ob := .map []) (w' := w.alloc (.map #[] 0)) hu.1 (fun i hi => ⟨upd_ne _ _ hi, rfl⟩) rfl rfl rfl (by simp) (fun k hk => Below.heap_alloc w _ k hk) (fun b hb => by
  have hb' : ρ'.blk id = some b := hb
  rw [hid] at hb'
  cases hb'
  exact Nat.le_refl _) (fun hV => ⟨_, #[], 0, hid, heap_alloc_new w _, rfl⟩)
 refine ⟨.map (some w.heap.size), w.alloc (.map #[] 0), ρ', .inl ?_, h1, h2, fun v hv => by cases hv; exact .mp id _ hid⟩
 refine runv (s := Instr.makeMap t none) ?_
 simp [Instr.makeMap, Sem.run_bind, Sem.run_pure, Result.andThen_ok]
theorem OpS.lookup {t kt et : TypeId} {d : TypeDesc} {inf : TypeInfo} {z : Value} {x i : Operand} {id : Nat} {es : List (Value × Value)} {k v : Value} {r : Option (Nat × Value)} (ht : P.underlying t = some (.map kt et)) (hd : P.underlying kt = some d) (hk : MapKept.IsKey d k)
  (hi : P.info? et = some inf) (hz : inf.zero = some z) (hf : fnd d k es 0 = some r) (hv : (match r with | some p => p.2 | none => z) = v) :
  OpS P G ⟨dst, .lookup t x i false, ty, pos, aft, gd⟩ [(x, .mp id), (i, .v k)] [(id, .map es)] ⟨some (.v v), [], []⟩ := by
 refine OpS.still fun A ρ σ a w _ h hp hs => ?_
 have hx := hs.ev h.1
 have hy := (hs.ev h.2.1).raw
 obtain ⟨b, arr, clk, h1, h2, h3⟩ := hs.mem.heap id _ hp.1
 refine ⟨v, ?_, .v v⟩
 refine runv (s := Instr.lookup t (a.eval x) (a.eval i) false) ?_
 rw [hy]
 generalize a.eval x = y at hx
 cases hx with
 | mp id b' hb' =>
  rw [h1] at hb'
  cases hb'
  have hfk := MapKept.run_findKey (w := w) hd ((fnd_eq d k arr.toList 0).trans (by rw [h3]; exact hf))
  subst hv
  cases r with
  | none => simp [Instr.lookup, Sem.run_bind, Sem.run_pure, Result.andThen_ok, run_underlying ht, MapKept.run_getObj_map h2, MapKept.run_checkKey hd hk, hfk, zeroValue, typeInfo, hi, hz]
  | some p => simp [Instr.lookup, Sem.run_bind, Sem.run_pure, Result.andThen_ok, run_underlying ht, MapKept.run_getObj_map h2, MapKept.run_checkKey hd hk, hfk]
def mput (es : List (Value × Value)) (k v : Value) : Option (Nat × Value) → List (Value × Value)
 | none => es ++ [(k, v)]
 | some p => es.set p.1 (k, v)
theorem fnd_spec {d : TypeDesc} {k : Value} : ∀ (es : List (Value × Value)) (i j : Nat) (v : Value), fnd d k es i = some (some (j, v)) → i ≤ j ∧ ∃ e, es[j - i]? = some e ∧ e.2 = v ∧ Instr.sameNow d k e.1 = some true
 | [], i, j, v, h => by cases h
 | e :: es, i, j, v, h => by
  unfold fnd at h
  split at h
  ·
   cases h
   rename_i hq
   exact ⟨Nat.le_refl _, e, by simp, rfl, hq⟩
  ·
   obtain ⟨h1, e', h2, h3, h4⟩ := fnd_spec es (i + 1) j v h
   refine ⟨by omega, e', ?_, h3, h4⟩
   rw [show j - i = (j - (i + 1)) + 1 by omega]
   simpa using h2
  cases h
theorem sameNow_eq {d : TypeDesc} {a b : Value} (h : Instr.sameNow d a b = some true) : a = b := by
 unfold Instr.sameNow at h
 split at h
 ·
  split at h
  ·
   rename_i hk
   subst hk
   simp at h
   rw [h]
  cases h
 ·
  rename_i x y
  simp only [Option.some.injEq] at h
  rw [(MapKept.bytes_beq x y).1 h]
 · simp at h; rw [h]
 cases h
theorem sameBits_key {d : TypeDesc} {k : Value} (hk : MapKept.IsKey d k) : Instr.sameBits 10000 k k = true := by
 cases d <;> cases k <;> simp_all [MapKept.IsKey, Instr.sameBits, MapKept.bytes_beq]
theorem OpS.mapUpdate {t kt et : TypeId} {d : TypeDesc} {x i y : Operand} {id : Nat} {es : List (Value × Value)} {k v : Value} {r : Option (Nat × Value)} (ht : P.underlying t = some (.map kt et)) (hd : P.underlying kt = some d) (hk : MapKept.IsKey d k)
  (hf : fnd d k es 0 = some r) :
  OpS P G ⟨dst, .mapUpdate t x i y, ty, pos, aft, gd⟩ [(x, .mp id), (i, .v k), (y, .v v)] [(id, .map es)] ⟨none, [(id, some (.map (mput es k v r)))], []⟩ := by
 refine OpS.act fun A ρ σ a w _ h hp _ hs => ?_
 have hx := hs.ev h.1
 have hi := (hs.ev h.2.1).raw
 have hy := (hs.ev h.2.2.1).raw
 obtain ⟨b, arr, clk, h1, h2, h3⟩ := hs.mem.heap id _ hp.1
 have hfk := MapKept.run_findKey (w := w) hd ((fnd_eq d k arr.toList 0).trans (by rw [h3]; exact hf))
 have hblt : b < w.heap.size := (Array.getElem?_eq_some_iff.1 h2).1
 cases r with
 | none =>
  obtain ⟨m1, m2⟩ := hs.mem.writeM (es' := mput es k v none) (w' := { w with heap := w.heap.setIfInBounds b (.map (arr.push { key := k, val := v, born := clk }) (clk + 1)) }) hp.1 h1 rfl rfl rfl (by simp) (fun j _ hj => (MapKept.heap_set h2).2 j hj) (MapKept.heap_set h2).1
   (by rw [Array.toList_push, List.map_append, h3]; rfl)
  refine ⟨undef, _, ρ, .inr ⟨?_, rfl⟩, m1, m2, fun v hv => by cases hv⟩
  refine runu (s := Instr.mapUpdate t (a.eval x) (a.eval i) (a.eval y)) ?_
  rw [hi, hy]
  generalize a.eval x = q at hx
  cases hx with
  | mp id b' hb' =>
   rw [h1] at hb'
   cases hb'
   simp [Instr.mapUpdate, Sem.run_bind, Sem.run_pure, Result.andThen_ok, run_underlying ht, MapKept.run_getObj_map h2, MapKept.run_checkKey hd hk, hfk, MapKept.run_setObj_map _ h2]
 | some p =>
  obtain ⟨j, v0⟩ := p
  obtain ⟨-, e, he1, he2, he3⟩ := fnd_spec es 0 j v0 hf
  have hek : e.1 = k := (sameNow_eq he3).symm
  rw [Nat.sub_zero] at he1
  have hj : j < arr.size := by
   have := (List.getElem?_eq_some_iff.1 he1).1
   rw [← h3] at this
   simpa using this
  have hkey : (arr[j]).key = k := by
   rw [← h3, List.getElem?_map, Array.getElem?_toList, Array.getElem?_eq_getElem hj] at he1
   cases he1
   exact hek
  obtain ⟨m1, m2⟩ := hs.mem.writeM (es' := mput es k v (some (j, v0))) (w' := { w with heap := w.heap.setIfInBounds b (.map (arr.modify j fun e => { e with key := k, val := v }) clk) }) hp.1 h1 rfl rfl rfl (by simp) (fun j _ hj => (MapKept.heap_set h2).2 j hj) (MapKept.heap_set h2).1
   (by
    show _ = es.set j (k, v)
    rw [← h3]
    apply List.ext_getElem?
    intro n
    rw [List.getElem?_map, Array.getElem?_toList, Array.getElem?_modify, List.getElem?_set, List.length_map, Array.length_toList, List.getElem?_map, Array.getElem?_toList]
    by_cases hn : j = n
    ·
     subst hn
     rw [if_pos rfl, if_pos rfl, if_pos hj, Array.getElem?_eq_getElem hj]
     rfl
    rw [if_neg hn, if_neg hn])
  refine ⟨undef, _, ρ, .inr ⟨?_, rfl⟩, m1, m2, fun v hv => by cases hv⟩
  refine runu (s := Instr.mapUpdate t (a.eval x) (a.eval i) (a.eval y)) ?_
  rw [hi, hy]
  generalize a.eval x = q at hx
  cases hx with
  | mp id b' hb' =>
   rw [h1] at hb'
   cases hb'
   have hst : (Instr.keyThatStays k k).run P w = .ok k w := by
    unfold Instr.keyThatStays
    rw [if_pos (sameBits_key hk)]
    rfl
   simp [Instr.mapUpdate, Sem.run_bind, Sem.run_pure, Result.andThen_ok, run_underlying ht, MapKept.run_getObj_map h2, MapKept.run_checkKey hd hk, hfk, Array.getElem?_eq_getElem hj, hkey, hst, MapKept.run_setObj_map _ h2]
theorem OpS.i2f {src d : TypeId} {x : Operand} {k' : IntKind} {kf : FloatKind} {n : Int} {bits : Nat} (hs : P.underlying src = some (.int k')) (hu : P.underlying d = some (.float kf)) (he : kf.nearest n = bits) :
  OpS P G ⟨dst, .convert src d x, ty, pos, aft, gd⟩ [(x, .v (.int k' n))] [] ⟨some (.v (.float kf bits)), [], []⟩ := by
 refine OpS.still fun A ρ σ a w _ h _ hst => ⟨.float kf bits, ?_, .v _⟩
 refine runv (s := convert src d (a.eval x)) ?_
 rw [(hst.ev h.1).raw]
 subst he
 simp [convert, Sem.run_bind, Sem.run_pure, Result.andThen_ok, run_underlying hs, run_underlying hu, Conv.intToFloat]
theorem OpS.f2i {src d : TypeId} {x : Operand} {kf : FloatKind} {k : IntKind} {bits : Nat} {n : Int} (hs : P.underlying src = some (.float kf)) (hu : P.underlying d = some (.int k)) (he : (kf.decode bits).toInt .zero = some n) (h1 : k.min ≤ n ∧ n ≤ k.max) :
  OpS P G ⟨dst, .convert src d x, ty, pos, aft, gd⟩ [(x, .v (.float kf bits))] [] ⟨some (.v (.int k n)), [], []⟩ := by
 refine OpS.still fun A ρ σ a w _ h _ hst => ⟨.int k n, ?_, .v _⟩
 refine runv (s := convert src d (a.eval x)) ?_
 rw [(hst.ev h.1).raw]
 simp [convert, Sem.run_bind, Sem.run_pure, Result.andThen_ok, run_underlying hs, run_underlying hu, Conv.floatToInt, he, h1]
theorem OpS.complex {x y : Operand} {ats : Array TypeId} {kf : FloatKind} {a b : Nat} :
  OpS P G ⟨dst, .call ⟨.builtin .complex, #[x, y], ats⟩, ty, pos, aft, gd⟩ [(x, .v (.float kf a)), (y, .v (.float kf b))] [] ⟨some (.v (.complex kf a b)), [], []⟩ := by
 refine OpS.still fun A ρ σ ac w _ h _ hst => ⟨.complex kf a b, ?_, .v _⟩
 obtain ⟨cs, e⟩ := exec_b2 (dst := dst) (ty := ty) (pos := pos) (aft := aft) (gd := gd) ac.eval .complex x y ats
 rw [e, (hst.ev h.1).raw, (hst.ev h.2.1).raw]
 exact runv (s := Builtin.complex_ ats ty #[.float kf a, .float kf b]) (by show (if kf = kf then (pure (.complex kf a b) : Sem Value) else _).run P w = _; rw [if_pos rfl]; rfl)
theorem OpS.real {x : Operand} {ats : Array TypeId} {kf : FloatKind} {a b : Nat} :
  OpS P G ⟨dst, .call ⟨.builtin .real, #[x], ats⟩, ty, pos, aft, gd⟩ [(x, .v (.complex kf a b))] [] ⟨some (.v (.float kf a)), [], []⟩ := by
 refine OpS.still fun A ρ σ ac w _ h _ hst => ⟨.float kf a, ?_, .v _⟩
 obtain ⟨cs, e⟩ := exec_b1 (dst := dst) (ty := ty) (pos := pos) (aft := aft) (gd := gd) ac.eval .real x ats
 rw [e, (hst.ev h.1).raw]
 exact runv (s := Builtin.real_ ats ty #[.complex kf a b]) rfl
theorem OpS.imag {x : Operand} {ats : Array TypeId} {kf : FloatKind} {a b : Nat} :
  OpS P G ⟨dst, .call ⟨.builtin .imag, #[x], ats⟩, ty, pos, aft, gd⟩ [(x, .v (.complex kf a b))] [] ⟨some (.v (.float kf b)), [], []⟩ := by
 refine OpS.still fun A ρ σ ac w _ h _ hst => ⟨.float kf b, ?_, .v _⟩
 obtain ⟨cs, e⟩ := exec_b1 (dst := dst) (ty := ty) (pos := pos) (aft := aft) (gd := gd) ac.eval .imag x ats
 rw [e, (hst.ev h.1).raw]
 exact runv (s := Builtin.imag_ ats ty #[.complex kf a b]) rfl
theorem near0 : FloatKind.f64.nearest 0 = 0 := by decide +kernel
end
end Go.Proofs.YtpnbpcopdckgpaaGreatDoor.E
namespace Go.Proofs.YtpnbpcopdckgpaaGreatDoor.E
open Go Go.RowKit V
def cel1 (o : Option TypeId) (v : AV) : AV := match o with | none => v | some _ => match v with | .agg cs => .sptr cs | v => v
def celL : List (Tmp × Option TypeId) → List AV → List AV
 | r :: rs, v :: vs => cel1 r.2 v :: celL rs vs
 | _, _ => []
def celA (rvs : List (Tmp × Option TypeId)) (v : AV) : AV := match rvs with | [r] => cel1 r.2 v | rvs => match v with | .tup vs => .tup (celL rvs vs) | v => v
def cok1 (P : Program) (o : Option TypeId) (v : AV) : Prop := match o with | none => True | some T => ∃ cs d, v = .agg cs ∧ P.underlying T = some d ∧ d.isRow = true ∧ (P.info? T).map (·.size) = some cs.length
def cokL (P : Program) : List (Tmp × Option TypeId) → List AV → Prop
 | r :: rs, v :: vs => cok1 P r.2 v ∧ cokL P rs vs
 | [], [] => True
 | _, _ => False
def cokA (P : Program) (rvs : List (Tmp × Option TypeId)) (v : AV) : Prop := match rvs with | [r] => cok1 P r.2 v | rvs => ∃ vs, v = .tup vs ∧ cokL P rvs vs
def rvar (r : Tmp × Option TypeId) : ResultVar := match r.2 with | none => .tmp r.1 | some T => .cell r.1 T
theorem Ret.from {A : Amb} {rs : List Tmp} {res : AV} {H' : List (Option AO)} {e : Exit} {σ σ' : AS} (hE : SEnt A σ σ') (h : Ret A rs res H' e σ') : Ret A rs res H' e σ := by
 cases e with
 | ret => obtain ⟨σ2, h1, h2⟩ := h; exact ⟨σ2, hE.trans h1, h2⟩
 | normal => obtain ⟨σ2, h1, h2⟩ := h; exact ⟨σ2, hE.trans h1, h2⟩
 | _ => exact h.elim
theorem run_rvar {P : Program} {N : Nat → Nat → Prop} {ρ : Env} {w : World} {r : Tmp × Option TypeId} {v : AV} {tmps : Array Value} (hN : ∀ b o, N b o → b < w.heap.size) (hv : VRel N ρ w (cel1 r.2 v) (tmps.getD r.1 undef)) (hc : cok1 P r.2 v) :
  ∃ x, (match rvar r with | .tmp t => (pure (tmps.getD t undef) : Sem Value) | .cell a t => do loadVar t (← asAddr (tmps.getD a undef))).run P w = .ok x w ∧ VRel N ρ w v x := by
 obtain ⟨t, o⟩ := r
 cases o with
 | none => exact ⟨_, rfl, hv⟩
 | some T =>
  obtain ⟨cs, d, rfl, hu, hd, hi⟩ := hc
  replace hv : VRel N ρ w (.sptr cs) (tmps.getD t undef) := hv
  have hrun : ∀ y, VRel N ρ w (.sptr cs) y → ∃ z, (do loadVar T (← asAddr y) : Sem Value).run P w = .ok z w ∧ VRel N ρ w (.agg cs) z := by
   intro y hy
   cases hy with
   | sptr cs b off vals hcc hcs =>
    have e : (do loadVar T (← asAddr (.pointer (some ⟨b, off, none⟩))) : Sem Value).run P w = (Instr.loadAt T (.pointer (some ⟨b, off, none⟩))).run P w := rfl
    refine ⟨_, e.trans (run_loadAt_mid w b off T ((List.range cs.length).map vals) d (fun j v hj => ?_) hu hd (by simpa using hi)), ?_⟩
    ·
     rw [List.getElem?_map] at hj
     cases hr : (List.range cs.length)[j]? with
     | none => rw [hr] at hj; cases hj
     | some k =>
      rw [hr] at hj
      have hk := List.getElem?_eq_some_iff.1 hr
      obtain ⟨hk1, hk2⟩ := hk
      simp at hk1 hk2
      subst hk2
      cases hj
      exact (hcc j hk1).1
    refine .agg cs _ (by simp) (fun i c x hc' hx' => ?_)
    have hi' := (List.getElem?_eq_some_iff.1 hc').1
    have hx2 : x = vals i := by simpa [hi'] using hx'.symm
    rw [hx2]
    exact hcs i c hc'
  exact hrun _ hv
theorem run_rvars {P : Program} {N : Nat → Nat → Prop} {ρ : Env} {w : World} {tmps : Array Value} (hN : ∀ b o, N b o → b < w.heap.size) (F : ResultVar → Sem Value) (hF1 : ∀ t, F (.tmp t) = pure (tmps.getD t undef)) (hF2 : ∀ a t, F (.cell a t) = (do loadVar t (← asAddr (tmps.getD a undef)))) :
  ∀ (rvs : List (Tmp × Option TypeId)) (vs : List AV), vs.length = rvs.length → (∀ (i : Nat) (r : Tmp × Option TypeId) (v : AV), rvs[i]? = some r → (celL rvs vs)[i]? = some v → VRel N ρ w v (tmps.getD r.1 undef)) → cokL P rvs vs →
  ∃ xs : List Value, (List.mapM (m := Sem) F (rvs.map rvar)).run P w = .ok xs w ∧ xs.length = vs.length ∧ ∀ (i : Nat) (c : AV) (x : Value), vs[i]? = some c → xs[i]? = some x → VRel N ρ w c x
 | [], [], _, _, _ => ⟨[], rfl, rfl, fun i c x h => by simp at h⟩
 | r :: rvs, v :: vs, hl, hv, hc => by
  obtain ⟨x, hx, hvx⟩ := run_rvar (r := r) (v := v) (tmps := tmps) hN (hv 0 r _ rfl rfl) hc.1
  obtain ⟨xs, hxs, hlx, hvs⟩ := run_rvars hN F hF1 hF2 rvs vs (by simpa using hl) (fun i r' v' h1 h2 => hv (i + 1) r' v' (by simpa using h1) (by simpa [celL] using h2)) hc.2
  refine ⟨x :: xs, ?_, by simp [hlx], ?_⟩
  ·
   rw [List.map_cons, List.mapM_cons]
   have h0 : (F (rvar r)).run P w = .ok x w := by
    obtain ⟨t, o⟩ := r
    cases o with
    | none => rw [show rvar (t, none) = .tmp t from rfl, hF1]; exact hx
    | some T => rw [show rvar (t, some T) = .cell t T from rfl, hF2]; exact hx
   rw [Sem.run_bind, h0, Result.andThen_ok, Sem.run_bind, hxs]
   rfl
  intro i c y h1 h2
  cases i with
  | zero => simp at h1 h2; subst h1; subst h2; exact hvx
  | succ i => exact hvs i c y (by simpa using h1) (by simpa using h2)
 | [], v :: vs, hl, _, _ => by simp at hl
 | r :: rvs, [], hl, _, _ => by simp at hl
def Fr0 (tmps : Array Value) (r : ResultVar) : Sem Value := match r with | .tmp t => pure (tmps.getD t undef) | .cell a t => do loadVar t (← asAddr (tmps.getD a undef))
theorem run_results_c {P : Program} {fn : Func} {tmps : Array Value} {w : World} {l : List ResultVar} {xs : List Value} (hr : fn.results = l.toArray) (h : (List.mapM (m := Sem) (Fr0 tmps) l).run P w = .ok xs w) :
  (results fn tmps).run P w = .ok (if h : xs.toArray.size = 1 then xs.toArray[0] else .tuple xs.toArray) w := by
 have key : ∀ F : ResultVar → Sem Value, (∀ t, F (.tmp t) = pure (tmps.getD t undef)) → (∀ a t, F (.cell a t) = (do loadVar t (← asAddr (tmps.getD a undef)))) → List.mapM (m := Sem) F l = List.mapM (m := Sem) (Fr0 tmps) l := by
  intro F h1 h2
  have : F = Fr0 tmps := by
   funext r
   cases r with
   | tmp t => exact h1 t
   | cell a t => exact h2 a t
  rw [this]
 unfold results
 rw [hr, List.mapM_toArray, key _ (fun _ => rfl) (fun _ _ => rfl), Sem.run_bind]
 show ((Sem.run P (List.toArray <$> List.mapM (Fr0 tmps) l) w).andThen _) = _
 rw [Sem.run_map, h]
 rfl
theorem cokL_len {P : Program} : ∀ (rvs : List (Tmp × Option TypeId)) (vs : List AV), cokL P rvs vs → vs.length = rvs.length
 | [], [], _ => rfl
 | r :: rvs, v :: vs, h => by simp [cokL_len rvs vs h.2]
theorem FC.of_wpc {P : Program} {G : List (Nat × Array Value)} {f : FuncId} {fn : Func} {c : Code} {args : List AV} {H H' : List (Option AO)} {res : AV} (rvs : List (Tmp × Option TypeId)) (hf : P.funcs[f]? = some fn) (hname : (fn.name == "runtime.NumGoroutine") = false) (hb : fn.body = some c)
  (hn' : Nat.ble args.length fn.ntmps = true) (hr : fn.results = (rvs.map rvar).toArray) (hc : cokA P rvs res) (belA : AV.belL (blt H.length) args) (bH : E.belH (blt H.length) H) (len : H.length ≤ H'.length)
  (h : ∀ A : Amb, A.G = G → A.nA = H.length → (∀ b, A.B b → ∃ i ob, hl H i = some ob ∧ ob.at_ A.ρ i b) → WP P A c (Ret A (rvs.map (·.1)) (celA rvs res) H') (start fn.ntmps args H)) : FC P G f args H res H' := by
 have hn : args.length ≤ fn.ntmps := Nat.le_of_ble_eq_true hn'
 refine ⟨⟨fn, c, hf, hname, hb⟩, belA, bH, len, ?_⟩
 intro A vs hG hnA HS hAB hsz hargs
 refine calls_of_wp hf hb ?_
 have hs : Sat A A.ρ (start fn.ntmps args H) { tmps := vs ++ Array.replicate (fn.ntmps - vs.size) undef, defers := [] } A.w := by
  refine ⟨HS, ?_, ?_, rfl⟩
  ·
   intro t v ht
   have ht' : args[t]? = some v := ht
   have hlt := (List.getElem?_eq_some_iff.1 ht').1
   have hx : vs[t]? = some vs[t] := Array.getElem?_eq_getElem (by omega)
   refine ⟨vs[t], ?_, hargs t v _ ht' hx⟩
   rw [Array.getElem?_append_left (by omega)]
   exact hx
  simp [start]; omega
 refine wp_mono ((h A hG hnA hAB).run A.ρ _ A.w hs) ?_
 rintro e a w' ⟨σ, ρ, hq, hs⟩
 have fin : (∃ σ', SEnt A σ σ' ∧ σ'.h = hl H' ∧ σ'.u = blt H'.length ∧ RetV (rvs.map (·.1)) (celA rvs res) σ') →
   a.defers = [] ∧ ∃ v, (results fn a.tmps).run P w' = .ok v w' ∧ ∃ v' ρ', Ending.returned v = .returned v' ∧ HSat A ρ' (hl H') (blt H'.length) w' ∧ VRel (Nh A (hl H') ρ' w') ρ' w' res v' := by
  rintro ⟨σ', hE, h1, h2, h3⟩
  obtain ⟨ρ', hs'⟩ := hE ρ a w' hs
  have hN : ∀ b o, Nh A (hl H') ρ' w' b o → b < w'.heap.size := fun b o hh => hh.1
  have hm : HSat A ρ' (hl H') (blt H'.length) w' := by have := hs'.mem; rw [h1, h2] at this; exact this
  have hev : ∀ {t : Tmp} {v : AV}, σ'.s t = some v → VRel (Nh A (hl H') ρ' w') ρ' w' v (a.tmps.getD t undef) := by
   intro t v hsv
   have := hs'.ev (x := .tmp t) hsv
   rw [h1] at this
   exact this
  refine ⟨hs.defers, ?_⟩
  match rvs, hr, hc, h3 with
  | [r], hr, hc, h3 =>
   obtain ⟨x, hx, hvx⟩ := run_rvar (r := r) (v := res) (tmps := a.tmps) hN (hev h3) hc
   refine ⟨x, ?_, x, ρ', rfl, hm, hvx⟩
   have hx' : (List.mapM (m := Sem) (Fr0 a.tmps) ([r].map rvar)).run P w' = .ok [x] w' := by
    rw [List.map_cons, List.mapM_cons, Sem.run_bind, show Sem.run P (Fr0 a.tmps (rvar r)) w' = .ok x w' from hx]
    rfl
   exact run_results_c hr hx'
  | [], hr, hc, h3 =>
   obtain ⟨vs, rfl, hok⟩ := hc
   obtain rfl : vs = [] := List.eq_nil_of_length_eq_zero (cokL_len _ _ hok)
   exact ⟨_, run_results_c (xs := []) hr rfl, _, ρ', rfl, hm, .tup [] _ rfl (fun i c x hc hx => by simp at hc)⟩
  | r :: r2 :: rs, hr, hc, h3 =>
   obtain ⟨vs, rfl, hok⟩ := hc
   have hll := cokL_len _ _ hok
   obtain ⟨vs', hres, hl, hsl⟩ := h3
   obtain rfl : celL (r :: r2 :: rs) vs = vs' := by
    have : celA (r :: r2 :: rs) (.tup vs) = .tup (celL (r :: r2 :: rs) vs) := rfl
    rw [this] at hres
    cases hres
    rfl
   obtain ⟨xs, hxs, hlx, hvs⟩ := run_rvars (tmps := a.tmps) hN (Fr0 a.tmps) (fun _ => rfl) (fun _ _ => rfl) (r :: r2 :: rs) vs hll (fun i r' v' k1 k2 => by
    refine hev (hsl.get (i := i) ?_ k2)
    show (List.map (fun x : Tmp × Option TypeId => x.fst) (r :: r2 :: rs))[i]? = _
    rw [List.getElem?_map, k1]
    rfl) hok
   refine ⟨.tuple xs.toArray, ?_, _, ρ', rfl, hm, .tup vs _ (by simp [hlx]) (fun i c x k1 k2 => hvs i c x k1 (by simpa using k2))⟩
   have h1' : xs.toArray.size ≠ 1 := by simp [hlx, hll]
   have := run_results_c hr hxs
   rw [dif_neg h1'] at this
   exact this
 cases e with
 | ret => exact fin hq
 | normal => exact fin hq
 | _ => exact hq.elim
end Go.Proofs.YtpnbpcopdckgpaaGreatDoor.E
section
namespace Go.Proofs.YtpnbpcopdckgpaaGreatDoor.E
open Go Go.RowKit Go.Proofs.YtpnbpcopdckgpaaGreatDoor.V
section
variable {P : Program} {G : List (Nat × Array Value)} {dst : Option Tmp} {ty : TypeId} {pos : String} {aft : Array Edge} {gd : Option (Nat × Bool)} {t t' e : TypeId} {x y : Operand}
theorem run_eqSl1 (w : World) (ad : Addr) (n c : Nat) (hu : P.underlying t = some (.slice e)) : (binOp .eql t (.slice (some ad) n c) (.slice none 0 0)).run P w = .ok (.bool false) w := by
 have key : ∀ d, (Op.equalIn (d + 1) t (.slice (some ad) n c) (.slice none 0 0)).run P w = .ok false w := fun d => by simp [Op.equalIn, run_underlying hu, Sem.run_bind, Sem.run_pure, Result.andThen_ok]
 show (do pure (Value.bool (← Op.equalIn (9999 + 1) t (.slice (some ad) n c) (.slice none 0 0))) : Sem Value).run P w = _
 rw [Sem.run_bind, key]
 rfl
theorem run_eqSl0 (w : World) (n c : Nat) (hu : P.underlying t = some (.slice e)) : (binOp .eql t (.slice none n c) (.slice none 0 0)).run P w = .ok (.bool true) w := by
 have key : ∀ d, (Op.equalIn (d + 1) t (.slice none n c) (.slice none 0 0)).run P w = .ok true w := fun d => by simp [Op.equalIn, run_underlying hu, Sem.run_bind, Sem.run_pure, Result.andThen_ok]
 show (do pure (Value.bool (← Op.equalIn (9999 + 1) t (.slice none n c) (.slice none 0 0))) : Sem Value).run P w = _
 rw [Sem.run_bind, key]
 rfl
inductive Sls : AV → Prop
 | sl (o : Option Nat) (n : Nat) (cs : List AV) : Sls (.sl o (n + 1) cs)
 | arr (id off n : Nat) : Sls (.arr id off n)
theorem Sls.val {N : Nat → Nat → Prop} {ρ : Env} {w : World} {c : AV} {v : Value} (h : Sls c) (hv : VRel N ρ w c v) : ∃ a n cap, v = .slice (some a) n cap := by
 cases h with
 | sl o n cs =>
  cases hv with
  | sl o n' cs a cap vals hc hcs ho hn hz hm =>
   cases a with
   | none => exact absurd (hz rfl) (by omega)
   | some a => exact ⟨_, _, _, rfl⟩
 | arr id off n => cases hv; exact ⟨_, _, _, rfl⟩
theorem OpS.eqSl {c : AV} (hp : Sls c) (hu : P.underlying t = some (.slice e)) : OpS P G ⟨dst, .binOp .eql t x y t', ty, pos, aft, gd⟩ [(x, c), (y, .v (.slice none 0 0))] [] ⟨some (.v (.bool false)), [], []⟩ :=
 OpS.still fun A ρ σ a w _ h _ hs => by
  obtain ⟨ad, n, cap, hx⟩ := hp.val (hs.ev h.1)
  refine ⟨_, ?_, .v _⟩
  show (do pure (Next.value (← (do eqGuard .eql t x y (a.eval x) (a.eval y); binOp .eql t (a.eval x) (a.eval y)))) : Sem Next).run P w = _
  refine runv ?_
  rw [hx, (hs.ev h.2.1).raw]
  have := run_eqSl1 (P := P) w ad n cap hu
  simpa [eqGuard, Sem.run_bind, Sem.run_pure, Result.andThen_ok] using this
theorem OpS.eqSlN (hu : P.underlying t = some (.slice e)) : OpS P G ⟨dst, .binOp .eql t x y t', ty, pos, aft, gd⟩ [(x, .v (.slice none 0 0)), (y, .v (.slice none 0 0))] [] ⟨some (.v (.bool true)), [], []⟩ :=
 OpS.still fun A ρ σ a w _ h _ hs => by
  refine ⟨_, ?_, .v _⟩
  show (do pure (Next.value (← (do eqGuard .eql t x y (a.eval x) (a.eval y); binOp .eql t (a.eval x) (a.eval y)))) : Sem Next).run P w = _
  refine runv ?_
  rw [(hs.ev h.1).raw, (hs.ev h.2.1).raw]
  have := run_eqSl0 (P := P) w 0 0 hu
  simpa [eqGuard, Sem.run_bind, Sem.run_pure, Result.andThen_ok] using this
theorem OpS.fieldAddrS {ts : TypeId} {fs : Array Field} {fd : Field} {inf : TypeInfo} {i : Nat} {cs ds : List AV} (hu : P.underlying ts = some (.struct fs)) (hf : fs[i]? = some fd) (hi : P.info? fd.type = some inf) (hz : (inf.size == 0) = false) (hds : (cs.drop fd.offset).take inf.size = ds) :
  OpS P G ⟨dst, .fieldAddr ts x i, ty, pos, aft, gd⟩ [(x, .sptr cs)] [] ⟨some (.sptr ds), [], []⟩ := by
 refine OpS.still fun A ρ σ a w _ h _ hs => ?_
 have hx := hs.ev h.1
 have hz' : ¬ inf.size = 0 := by simpa using hz
 subst hds
 have hrun : ∀ y, VRel (Nh A σ.h ρ w) ρ w (.sptr cs) y → ∃ z, (Instr.fieldAt ts y i).run P w = .ok z w ∧ VRel (Nh A σ.h ρ w) ρ w (.sptr ((cs.drop fd.offset).take inf.size)) z := by
  intro y hy
  cases hy with
  | sptr cs b off vals hc hcs =>
   refine ⟨.pointer (some ((⟨b, off, none⟩ : Addr).add fd.offset)), ?_, ?_⟩
   · simp [Instr.fieldAt, run_underlying hu, hf, Sem.run_bind, Instr.sureAddr, fieldPlace, sizeOf, typeInfo, hi, hz']
   rw [Addr.add_mid]
   refine .sptr _ b _ (fun j => vals (fd.offset + j)) (fun j hj => ?_) (fun j c hj => ?_)
   ·
    have hlt : fd.offset + j < cs.length := by
     rw [List.length_take, List.length_drop] at hj
     omega
    rw [Nat.add_assoc]
    exact hc _ hlt
   rw [List.getElem?_take] at hj
   split at hj
   ·
    rw [List.getElem?_drop] at hj
    exact hcs _ _ hj
   cases hj
 obtain ⟨z, hz, hv⟩ := hrun _ hx
 exact ⟨z, runv (s := Instr.fieldAt ts (a.eval x) i) hz, hv⟩
theorem OpS.buildSlice0 {E : TypeId} {inf : TypeInfo} {sz : Nat} (id : Nat) (hu : P.underlying t = some (.slice E)) (hi : P.info? E = some inf) (hsz : inf.size = sz) :
  OpS P G ⟨dst, .buildSlice t 0 #[], ty, pos, aft, gd⟩ [] [] ⟨some (.sl (some id) 0 []), [(id, some (.tip E sz 0))], [id]⟩ := by
 subst hsz
 refine OpS.act fun A ρ σ a w _ h _ hnu hs => ?_
 let ρ' : Env := ⟨ρ.blk, upd ρ.tip id (some (.slice (some ⟨w.heap.size, 0, none⟩) 0 0))⟩
 have hid : ρ'.tip id = some (.slice (some ⟨w.heap.size, 0, none⟩) 0 0) := upd_same _ _ _
 obtain ⟨m1, m2⟩ := hs.mem.extend (ρ' := ρ') (ob := .tip E inf.size 0) (w' := w.alloc (.cells #[] E)) hnu.1 (fun i hi => ⟨rfl, upd_ne _ _ hi⟩) rfl rfl rfl (by simp) (fun k hk => Below.heap_alloc w _ k hk)
  (fun b ⟨cap, hb⟩ => by rw [hid] at hb; cases hb; exact Nat.le_refl _) (fun _ => .inr ⟨w.heap.size, 0, #[], hid, heap_alloc_new w _, Nat.le_refl _, Nat.zero_le _, by simp⟩)
 refine ⟨_, w.alloc (.cells #[] E), ρ', .inl ?_, m1, m2, fun v hv => by
  cases hv
  exact .sl _ _ _ _ 0 (fun i => undef) (fun i hi => absurd hi (Nat.not_lt_zero _)) (fun i c hi => by simp at hi) (fun k hk => by cases hk; exact hid) (Nat.le_refl _) (fun h => by cases h) (Nat.zero_le _)⟩
 show (do pure (Next.value (← Instr.buildSlice t 0 ((#[] : Array (Nat × Operand)).map fun (i, x) => (i, a.eval x)))) : Sem Next).run P w = _
 refine runv ?_
 simp [Instr.buildSlice, Instr.fill, newRow, Sem.run_bind, Sem.run_pure, Result.andThen_ok, run_underlying hu, sizeOf, typeInfo, hi]
 have e : ∀ f : Nat → Value, Array.map f (Array.range 0) = #[] := fun f => by rw [← Array.toList_inj]; simp [Array.toList_range]
 rw [e]
end
section
variable {P : Program} {A : Amb} {n : Nat} {s : Nat → Option AV} {h : Nat → Option AO} {u : Nat → Bool} {code : Code} {Q : Exit → AS → Prop}
end
end Go.Proofs.YtpnbpcopdckgpaaGreatDoor.E
end
namespace Go.Proofs.YtpnbpcopdckgpaaGreatDoor.V
def beP (x : UInt64) (size m : Nat) : List UInt8 := (List.range m).map fun j => UInt8.ofNat (x.toNat / 256 ^ (size - 1 - j))
def beS (x : UInt64) (size : Nat) : List UInt8 := beP x size size
theorem beP_length (x : UInt64) (size m : Nat) : (beP x size m).length = m := by simp [beP]
theorem beS_length (x : UInt64) (size : Nat) : (beS x size).length = size := beP_length _ _ _
theorem beP_0 (x : UInt64) (size : Nat) : beP x size 0 = [] := rfl
theorem beP_succ (x : UInt64) (size m : Nat) : beP x size (m + 1) = beP x size m ++ [UInt8.ofNat (x.toNat / 256 ^ (size - 1 - m))] := by simp [beP, List.range_succ]
theorem beS_cons (x : UInt64) (m : Nat) : beS x (m + 1) = UInt8.ofNat (x.toNat / 256 ^ m) :: beS x m := by
 unfold beS beP
 rw [List.range_succ_eq_map, List.map_cons, List.map_map]
 simp only [Nat.add_sub_cancel, Nat.sub_zero]
 congr 1
 refine List.map_congr_left fun j hj => ?_
 have : j < m := by simpa using hj
 show UInt8.ofNat (x.toNat / 256 ^ (m - (j + 1))) = _
 rw [show m - (j + 1) = m - 1 - j by omega]
theorem sh8 (x : UInt64) (q : Nat) : (shr64 x (8 * q)).toUInt8 = UInt8.ofNat (x.toNat / 256 ^ q) := by
 apply UInt8.toNat_inj.1
 have h : (2 : Nat) ^ (8 * q) = 256 ^ q := by rw [Nat.pow_mul]
 have hx := x.toNat_lt
 have hd : x.toNat / 256 ^ q ≤ x.toNat := Nat.div_le_self _ _
 simp only [shr64, h, UInt64.toNat_toUInt8, UInt64.toNat_ofNat', UInt8.toNat_ofNat']
 omega
def rowN (x : UInt64) (many m : Nat) : List UInt8 := List.replicate (many - m) 0 ++ beS x m
theorem rowN_0 (x : UInt64) (many : Nat) : rowN x many 0 = List.replicate many 0 := by simp [rowN, beS, beP]
theorem rowN_all (x : UInt64) (many : Nat) : rowN x many many = beS x many := by simp [rowN]
theorem rowN_length (x : UInt64) (many m : Nat) (h : m ≤ many) : (rowN x many m).length = many := by simp [rowN, beS_length]; omega
theorem rowN_set (x : UInt64) (many m : Nat) (h : m < many) : (rowN x many m).set (many - 1 - m) (UInt8.ofNat (x.toNat / 256 ^ m)) = rowN x many (m + 1) := by
 unfold rowN
 rw [beS_cons]
 obtain ⟨k, hk⟩ : ∃ k, many - m = k + 1 := ⟨many - m - 1, by omega⟩
 rw [hk, show many - (m + 1) = k by omega, show many - 1 - m = k by omega, List.replicate_succ']
 rw [List.append_assoc, List.set_append_right _ _ (by simp)]
 simp
def valU (l : List UInt8) : UInt64 := l.foldl (fun n c => shl64 n 8 ||| c.toUInt64) 0
theorem valU_succ (l : List UInt8) (i : Nat) (h : i < l.length) : valU (l.take (i + 1)) = shl64 (valU (l.take i)) 8 ||| (l[i]'h).toUInt64 := by
 unfold valU
 rw [List.take_add_one, List.getElem?_eq_getElem h, List.foldl_append]
 rfl
theorem or_byte (a b : Nat) (h : b < 256) : a * 256 ||| b = a * 256 + b := by
 have := Nat.two_pow_add_eq_or_of_lt (i := 8) (b := b) (by omega) a
 rw [Nat.mul_comm] at this
 exact this.symm
theorem step_toNat (n : UInt64) (c : UInt8) (h : n.toNat < 2 ^ 56) : (shl64 n 8 ||| c.toUInt64).toNat = n.toNat * 256 + c.toNat := by
 have hc := c.toNat_lt
 rw [UInt64.toNat_or]
 unfold shl64
 rw [UInt64.toNat_ofNat', UInt8.toNat_toUInt64, Nat.mod_eq_of_lt (by omega)]
 exact or_byte _ _ (by omega)
theorem valU_lt : ∀ (k : Nat) (l : List UInt8), l.length = k → k ≤ 8 → (valU l).toNat < 256 ^ k
 | 0, l, h, _ => by
  obtain rfl := List.eq_nil_of_length_eq_zero h
  decide
 | k + 1, l, h, hk => by
  have e := valU_succ l k (by omega)
  rw [List.take_of_length_le (by omega)] at e
  have ih := valU_lt k (l.take k) (by rw [List.length_take]; omega) (by omega)
  have hle : 256 ^ k ≤ 2 ^ 56 := by
   have : (256 : Nat) ^ k ≤ 256 ^ 7 := Nat.pow_le_pow_right (by decide) (by omega)
   exact Nat.le_trans this (by decide)
  have hc := (l[k]'(by omega)).toNat_lt
  rw [e, step_toNat _ _ (by omega), Nat.pow_succ]
  omega
theorem valU_beP (x : UInt64) (size : Nat) (h8 : size ≤ 8) : ∀ m, m ≤ size → (valU (beP x size m)).toNat = x.toNat / 256 ^ (size - m) % 256 ^ m
 | 0, _ => by rw [beP_0, Nat.pow_zero, Nat.mod_one]; rfl
 | m + 1, h => by
  have ih := valU_beP x size h8 m (by omega)
  have hl := valU_lt m (beP x size m) (beP_length _ _ _) (by omega)
  have hle : 256 ^ m ≤ 2 ^ 56 := by
   have : (256 : Nat) ^ m ≤ 256 ^ 7 := Nat.pow_le_pow_right (by decide) (by omega)
   exact Nat.le_trans this (by decide)
  have e : valU (beP x size (m + 1)) = shl64 (valU (beP x size m)) 8 ||| (UInt8.ofNat (x.toNat / 256 ^ (size - 1 - m))).toUInt64 := by
   rw [beP_succ]; unfold valU; rw [List.foldl_append]; rfl
  rw [e, step_toNat _ _ (by omega), ih, UInt8.toNat_ofNat', show size - (m + 1) = size - 1 - m by omega]
  have e2 : size - m = size - 1 - m + 1 := by omega
  rw [e2, Nat.pow_succ 256 (size - 1 - m), ← Nat.div_div_eq_div_mul]
  generalize x.toNat / 256 ^ (size - 1 - m) = y
  rw [show (256 : Nat) ^ (m + 1) = 256 * 256 ^ m by rw [Nat.pow_succ, Nat.mul_comm], Nat.mod_mul]
  omega
theorem valU_beS (x : UInt64) (m : Nat) (h : m ≤ 8) : (valU (beS x m)).toNat = x.toNat % 256 ^ m := by
 unfold beS
 rw [valU_beP x m h m (Nat.le_refl _), Nat.sub_self, Nat.pow_zero, Nat.div_one]
theorem valU_be8 (x : UInt64) : valU (beS x 8) = x := by
 apply UInt64.toNat_inj.1
 rw [valU_beS x 8 (by decide)]
 have := x.toNat_lt
 exact Nat.mod_eq_of_lt (by omega)
def rdCut (n : Nat) (r : List UInt8 × Bool) : List UInt8 × List UInt8 × Bool := if r.2 = true ∨ r.1.length < n then ([], r.1, true) else (r.1.take n, r.1.drop n, false)
def rdNum (r : List UInt8 × Bool) : UInt64 × List UInt8 × Bool := (if (rdCut 8 r).2.2 = true then 0 else valU (rdCut 8 r).1, (rdCut 8 r).2)
def rdText (most : Nat) (r : List UInt8 × Bool) : List UInt8 × List UInt8 × Bool :=
 if (rdCut 4 r).2.2 = true then ([], (rdCut 4 r).2) else if most < (valU (rdCut 4 r).1).toNat then ([], (rdCut 4 r).2.1, true) else rdCut (valU (rdCut 4 r).1).toNat (rdCut 4 r).2
theorem rdCut_bad (n : Nat) (l : List UInt8) : rdCut n (l, true) = ([], l, true) := if_pos (.inl rfl)
theorem rdCut_short {n : Nat} {l : List UInt8} {b : Bool} (h : l.length < n) : rdCut n (l, b) = ([], l, true) := if_pos (.inr h)
theorem rdCut_fit {n : Nat} {l : List UInt8} (h : n ≤ l.length) : rdCut n (l, false) = (l.take n, l.drop n, false) := if_neg (fun k => k.elim (fun e => by cases e) (fun e => by have : l.length < n := e; omega))
theorem rdCut_len (n : Nat) (r : List UInt8 × Bool) : (rdCut n r).1.length ≤ n ∧ (rdCut n r).2.1.length ≤ r.1.length := by
 unfold rdCut
 split
 · exact ⟨Nat.zero_le _, Nat.le_refl _⟩
 exact ⟨List.length_take_le _ _, by show (r.1.drop n).length ≤ _; rw [List.length_drop]; omega⟩
theorem rdCut_ok {n : Nat} {r : List UInt8 × Bool} (h : (rdCut n r).2.2 = false) : r.2 = false ∧ n ≤ r.1.length ∧ rdCut n r = (r.1.take n, r.1.drop n, false) := by
 unfold rdCut at h ⊢
 split at h
 · cases h
 rename_i hn
 refine ⟨by rw [← Bool.not_eq_true]; exact fun e => hn (.inl e), by omega, if_neg hn⟩
abbrev TB := UInt64 × Nat × Nat
def tb (l : List TB) (b : Nat) : TB := (l[b]?).getD (0, 0, 0)
def vwT (l : List TB) (b : Nat) : UInt64 := (tb l b).1
def htT (l : List TB) (b : Nat) : Nat := (tb l b).2.1
def prT (l : List TB) (b : Nat) : Nat := (tb l b).2.2
structure WfT (l : List TB) : Prop where
 pos : 0 < l.length
 le : l.length ≤ 256
 zero : tb l 0 = (0, 0, 0)
 up : ∀ b, 0 < b → b < l.length → prT l b < b ∧ htT l b = htT l (prT l b) + 1
theorem tb_app (l : List TB) (x : TB) {b : Nat} (h : b < l.length) : tb (l ++ [x]) b = tb l b := by
 unfold tb
 rw [List.getElem?_append_left h]
theorem tb_new (l : List TB) (x : TB) : tb (l ++ [x]) l.length = x := by
 unfold tb
 simp
theorem WfT.ht_le {l : List TB} (h : WfT l) : ∀ (n b : Nat), b ≤ n → b < l.length → htT l b ≤ b
 | 0, b, hn, hb => by
  obtain rfl : b = 0 := by omega
  unfold htT
  rw [h.zero]
  exact Nat.le_refl _
 | n + 1, b, hn, hb => by
  rcases Nat.eq_zero_or_pos b with rfl | hp
  ·
   unfold htT
   rw [h.zero]
   exact Nat.le_refl _
  obtain ⟨h1, h2⟩ := h.up b hp hb
  have := h.ht_le n (prT l b) (by omega) (by omega)
  omega
theorem WfT.htle {l : List TB} (h : WfT l) {b : Nat} (hb : b < l.length) : htT l b ≤ 255 := by
 have := h.ht_le b b (Nat.le_refl _) hb
 have := h.le
 omega
theorem WfT.pr_lt {l : List TB} (h : WfT l) {b : Nat} (hb : b < l.length) : prT l b < l.length ∧ prT l b ≤ b := by
 rcases Nat.eq_zero_or_pos b with rfl | hp
 ·
  unfold prT
  rw [h.zero]
  exact ⟨hb, Nat.le_refl _⟩
 have := (h.up b hp hb).1
 omega
theorem WfT.pr_0 {l : List TB} (h : WfT l) : prT l 0 = 0 := by
 unfold prT
 rw [h.zero]
theorem WfT.vw_0 {l : List TB} (h : WfT l) : vwT l 0 = 0 := by
 unfold vwT
 rw [h.zero]
theorem WfT.ht_0 {l : List TB} (h : WfT l) : htT l 0 = 0 := by
 unfold htT
 rw [h.zero]
theorem WfT.add {l : List TB} (h : WfT l) (v : UInt64) {p : Nat} (hp : p < l.length) (hl : l.length < 256) : WfT (l ++ [(v, htT l p + 1, p)]) := by
 have hpos := h.pos
 refine ⟨by simp, by simp; omega, by rw [tb_app l _ h.pos]; exact h.zero, ?_⟩
 intro b h0 hb
 rw [List.length_append, List.length_singleton] at hb
 rcases Nat.lt_or_ge b l.length with hlt | hge
 ·
  obtain ⟨h1, h2⟩ := h.up b h0 hlt
  have e1 : prT (l ++ [(v, htT l p + 1, p)]) b = prT l b := by unfold prT; rw [tb_app l _ hlt]
  have e2 : htT (l ++ [(v, htT l p + 1, p)]) b = htT l b := by unfold htT; rw [tb_app l _ hlt]
  have e3 : htT (l ++ [(v, htT l p + 1, p)]) (prT l b) = htT l (prT l b) := by unfold htT; rw [tb_app l _ (by omega)]
  rw [e1, e2, e3]
  exact ⟨h1, h2⟩
 obtain rfl : b = l.length := by omega
 have e1 : prT (l ++ [(v, htT l p + 1, p)]) l.length = p := by unfold prT; rw [tb_new]
 have e2 : htT (l ++ [(v, htT l p + 1, p)]) l.length = htT l p + 1 := by unfold htT; rw [tb_new]
 have e3 : htT (l ++ [(v, htT l p + 1, p)]) p = htT l p := by unfold htT; rw [tb_app l _ hp]
 rw [e1, e2, e3]
 exact ⟨hp, rfl⟩
theorem wf_one : WfT [(0, 0, 0)] := ⟨by decide, by decide, rfl, fun b h0 hb => by simp at hb; omega⟩
def upT (l : List TB) : Nat → Nat → Nat
 | 0, b => b
 | k + 1, b => upT l k (prT l b)
def extT (l : List TB) (a b : Nat) : Bool := decide (a = upT l (htT l b - htT l a) b)
def mayT (l : List TB) (vo : UInt64) (lk b : Nat) : Bool :=
 if b = 0 then false else if (vwT l b).toNat ≤ vo.toNat then false else if (vwT l lk).toNat < (vwT l (prT l b)).toNat then true else extT l lk b
def gpT (l : List TB) (b : Nat) : Nat := prT l (prT l b)
def okT (l : List TB) (b : Nat) : Bool := decide (prT l b ≠ 0 ∧ vwT l (prT l b) = vwT l (prT l (prT l b)) + 1)
def comK (l : List TB) : Nat → Nat → Int
 | 0, c => (prT l c : Int)
 | k + 1, c => if okT l c = true then comK l k (prT l c) else -1
def comT (l : List TB) (b : Nat) : Int := if b = 0 then -1 else comK l 2 b
theorem okT_t {l : List TB} {c : Nat} (h1 : prT l c ≠ 0) (h2 : vwT l (prT l c) = vwT l (prT l (prT l c)) + 1) : okT l c = true := decide_eq_true ⟨h1, h2⟩
theorem okT_f {l : List TB} {c : Nat} (h : ¬ (prT l c ≠ 0 ∧ vwT l (prT l c) = vwT l (prT l (prT l c)) + 1)) : okT l c = false := decide_eq_false h
theorem comK_f {l : List TB} {c k : Nat} (h : okT l c = false) : comK l (k + 1) c = -1 := by
 unfold comK
 rw [if_neg (by rw [h]; decide)]
theorem comK_t {l : List TB} {c k : Nat} (h : okT l c = true) : comK l (k + 1) c = comK l k (prT l c) := by
 rw [comK, if_pos h]
end Go.Proofs.YtpnbpcopdckgpaaGreatDoor.V
