/- append, onto a row of the play's own: what it comes to in abstract words. -/
import Derived.Test.YtmifllopcbjliaaDoorE7
namespace Go.Proofs.YtmifllopcbjliaaDoor.E
open Go Go.RowKit Go.Proofs.YtmifllopcbjliaaDoor.V

section
variable {P : Program} (w : World)
/-- append onto a row of the play's own: in place, or into a new block -/
theorem run_append_two (t tx ty e : TypeId) (i : TypeInfo) (z : Value) (size : Nat) (ht : P.underlying t = some (.slice e)) (hi : P.info? e = some i) (hz : i.zero = some z)
    (hsize : i.size = size) (hzs : z.cells.size = size) (hsz : 0 < size)
    (v : Value) (n : Nat) (xs : List Value) (hown : w.ownsRow 0 e size v n xs) (x : Value) (m : Nat) (news : List Value) (hs : Src P size tx x m news w)
    (h63 : n + m ≤ maxLen) (hbytes : (n + m) * i.bytes ≤ 140737488355328) :
    ∃ v' w', (Builtin.append_ #[t, tx] ty #[v, x]).run P w = .ok v' w' ∧ w'.ownsRow 0 e size v' (n + m) (xs ++ news) ∧
      ((v'.ownBlock = v.ownBlock ∧ w.grownBy w' v.ownBlock) ∨ (v'.ownBlock = some w.heap.size ∧ w.grownBy w' none)) := by
  subst hsize
  have hsmall : ((n + m : Nat) : Int) ≤ 9223372036854775807 := by simp only [maxLen] at h63; omega
  have hl := hs.newsLen
  have hlen : (xs ++ news).length = (n + m) * i.size := by rw [List.length_append, hown.1, hl, Nat.add_mul]
  have grown : ∀ (old : Nat), old < n + m →
      (w.drew.alloc (.cells ((xs ++ news).toArray ++ Builtin.zeroCells z.cells (grownCap w (n + m) old e - (n + m))) e)).ownsRow 0 e i.size
        (.slice (some ⟨w.heap.size, 0, none⟩) (n + m) (grownCap w (n + m) old e)) (n + m) (xs ++ news) ∧
      w.grownBy (w.drew.alloc (.cells ((xs ++ news).toArray ++ Builtin.zeroCells z.cells (grownCap w (n + m) old e - (n + m))) e)) none := by
    intro old ho
    have hge := grownCap_ge w (n + m) old e
    have hcm : grownCap w (n + m) old e ≤ maxLen := grownCap_le_maxLen w (n + m) old e h63
    refine ⟨⟨hlen, .inr ⟨w.heap.size, _, _, rfl, Nat.zero_le _, heap_alloc_new w.drew _, hge, hcm, ?_, ?_⟩⟩, ⟨rfl, rfl, rfl, by simp, fun k hk _ => Below.heap_alloc w.drew _ k hk⟩⟩
    · simp only [Array.size_append, List.size_toArray, size_zeroCells, hzs, hlen, ← Nat.add_mul]
      congr 1
      omega
    · simp only [Array.toList_append]
      rw [← hlen]
      exact List.take_left
  rcases hown.2 with ⟨rfl, rfl⟩ | ⟨g, cap, cur, rfl, hbg, hg, hnc, hcm, hcs, htake⟩
  · have hx : xs = [] := List.eq_nil_of_length_eq_zero (by simpa using hown.1)
    subst hx
    by_cases hm : m = 0
    · subst hm
      have hn : news = [] := List.eq_nil_of_length_eq_zero (by simpa using hl)
      subst hn
      refine ⟨.slice none 0 0, w, ?_, World.ownsRow_nil w 0 e i.size, .inl ⟨rfl, ⟨rfl, rfl, rfl, Nat.le_refl _, fun _ _ _ => rfl⟩⟩⟩
      rcases hs.kind with ⟨e', hk⟩ | hk <;> simp [Builtin.append_, run_underlying ht, run_underlying hk, sizeOf, typeInfo, hi, hs.len, hs.cells]
    · have hold : (Builtin.firstCells i.size 0 (.slice none 0 0)).run P w.drew = .ok ([] : List Value).toArray w.drew := by simp [Builtin.firstCells]
      have hr := run_append_grow_src (P := P) w t tx ty e i z ht hi hz none 0 0 [] hold x m news hs (by omega) (by omega) (growslice_fits (by omega) (by have hb := hbytes; simp only [Nat.zero_add] at hb ⊢; omega))
      have hgr := grown 0 (by omega)
      simp only [Nat.zero_add, List.nil_append] at hgr hr ⊢
      exact ⟨_, _, hr, hgr.1, .inr ⟨rfl, hgr.2⟩⟩
  · by_cases hroom : n + m ≤ cap
    · have hfit : n * i.size + news.length ≤ cur.size := by rw [hl, hcs, ← Nat.add_mul]; exact Nat.mul_le_mul_right _ hroom
      have hr := run_append_room_row (P := P) w t tx ty e i ht hi g n cap cur hg x m news hs hroom hfit
      refine ⟨_, _, hr, ⟨hlen, .inr ⟨g, cap, _, rfl, hbg, setRow_heap w g cur _ e _ hg, hroom, hcm, ?_, ?_⟩⟩, .inl ⟨rfl, ⟨rfl, rfl, rfl, by simp, fun k hk hk' => setRow_other w g k _ (fun e => hk' (by simp [Value.ownBlock, e]))⟩⟩⟩
      · simp only [List.size_toArray, List.length_append, List.length_take, List.length_drop, Array.length_toList]
        omega
      · rw [htake, ← hlen]
        exact List.take_left
    · have holds : ∀ j u, xs[j]? = some u → w.drew.cell? ((⟨g, 0, none⟩ : Addr).add j) = some u := by simpa using hown.cells (g := g) rfl
      have hold : (Builtin.firstCells i.size n (.slice (some ⟨g, 0, none⟩) n cap)).run P w.drew = .ok xs.toArray w.drew := run_firstCells_some w.drew i.size n ⟨g, 0, none⟩ n cap xs hown.1 holds
      have hr := run_append_grow_src (P := P) w t tx ty e i z ht hi hz (some ⟨g, 0, none⟩) n cap xs hold x m news hs (by omega) hsmall (growslice_fits (by omega) hbytes)
      have hgr := grown cap (by omega)
      exact ⟨_, _, hr, hgr.1, .inr ⟨rfl, hgr.2⟩⟩
end

/-- what an abstract value gives as a source of cells -/
def SrcA (P : Program) (sz : Nat) (tx : TypeId) (y : AV) (m : Nat) (ds : List AV) : Prop :=
  ∀ (N : Nat → Nat → Prop) (ρ : Env) (w : World) (x : Value), VRel N ρ w y x → ∃ news, Src P sz tx x m news w ∧ ∀ (j : Nat) (d : AV) (v : Value), ds[j]? = some d → news[j]? = some v → VRel N ρ w d v

theorem SrcA.sl {P : Program} {sz : Nat} {tx e : TypeId} (hk : P.underlying tx = some (.slice e)) {o : Option Nat} {m : Nat} {ds : List AV} (hl : ds.length = m * sz) : SrcA P sz tx (.sl o m ds) m ds := by
  intro N ρ w x hx
  cases hx with
  | sl o n cs a cap vals hc hcs ho hn hz hm =>
    by_cases h0 : ds.length = 0
    · have hds : ds = [] := List.eq_nil_of_length_eq_zero h0
      subst hds
      refine ⟨[], ?_, fun j d v hj => by simp at hj⟩
      refine ⟨.inl ⟨e, hk⟩, fun w' => by simp [Builtin.lenOf], ?_, ?_, by simpa using hl, fun u hu => by cases hu⟩
      all_goals
        have hl' : m * sz = 0 := by simpa using hl.symm
        cases a with
        | none => simp [Builtin.firstCells]
        | some ad => simp [Builtin.firstCells, hl', loadCells, loadCellsFrom]
    · obtain ⟨h1', b, off, rfl, -⟩ := hc 0 (by omega)
      refine ⟨(List.range ds.length).map vals, ?_, fun j d v hj hv => ?_⟩
      · have hcell : ∀ j u, ((List.range ds.length).map vals)[j]? = some u → w.cell? ((⟨b, off, none⟩ : Addr).add j) = some u := by
          intro j u hu
          rw [List.getElem?_map] at hu
          cases hr : (List.range ds.length)[j]? with
          | none => rw [hr] at hu; cases hu
          | some k =>
            rw [hr] at hu
            obtain ⟨hk1, hk2⟩ := List.getElem?_eq_some_iff.1 hr
            simp at hk1 hk2
            subst hk2
            cases hu
            obtain ⟨-, b', off', he, hx', -⟩ := hc j hk1
            cases he
            rw [Addr.add_mid]
            exact hx'
        exact Src.ofSlice w hk ⟨b, off, none⟩ m cap _ (by simp [hl]) hcell (fun u hu => by
          obtain ⟨k, hk1, rfl⟩ := List.mem_map.1 hu
          exact (hc k (by simpa using hk1)).1)
      · have hj' := (List.getElem?_eq_some_iff.1 hj).1
        have hx2 : v = vals j := by
          rw [List.getElem?_map, List.getElem?_range hj'] at hv
          simpa using hv.symm
        rw [hx2]
        exact hcs j d hj
theorem SrcA.str {P : Program} {tx : TypeId} (hk : P.underlying tx = some .string) (l : List UInt8) : SrcA P 1 tx (.v (.string (B l))) l.length (l.map fun b => .v (bv b)) := by
  intro N ρ w x hx
  cases hx
  refine ⟨bvs l, Src.text w hk l, fun j d v hj hv => ?_⟩
  rw [List.getElem?_map] at hj
  cases hl : l[j]? with
  | none => rw [hl] at hj; cases hj
  | some b =>
    rw [hl] at hj
    cases hj
    have : v = bv b := by simpa [bvs, hl] using hv.symm
    rw [this]
    exact .v _
theorem SrcA.nil {P : Program} {sz : Nat} {tx e : TypeId} (hk : P.underlying tx = some (.slice e)) : SrcA P sz tx (.v (.slice none 0 0)) 0 [] := by
  intro N ρ w x hx
  cases hx
  exact ⟨[], Src.ofNil w hk 0, fun j d v hj => by simp at hj⟩

section
variable {P : Program} {G : List (Nat × Array Value)} {dst : Option Tmp} {ty : TypeId} {pos : String} {aft : Array Edge} {gd : Option (Nat × Bool)}

theorem grown_cells {w w' : World} {row : Option Nat} (h : w.grownBy w' row) {b o : Nat} (hb : b < w.heap.size) (hn : some b ≠ row) : w'.cell? ⟨b, o, none⟩ = w.cell? ⟨b, o, none⟩ :=
  World.cell?_of_block (w := w) (h.block b hb hn)

/-- the heart: a tip is appended to -/
theorem append_tip {A : Amb} {ρ : Env} {σ : AS} {w w' : World} {c c' n m sz : Nat} {E : TypeId} {cs ds : List AV} {v v' : Value} {xs news : List Value} (H : HSat A ρ σ.h σ.u w) (hc : σ.h c = some (.tip E sz n)) (hu : σ.u c' = false)
    (hv : VRel (Nh A σ.h ρ w) ρ w (.sl (some c) n cs) v) (hl : cs.length = n * sz) (hxs : w.ownsRow 0 E sz v n xs) (hown : w'.ownsRow 0 E sz v' (n + m) (xs ++ news)) (hnews : news.length = m * sz) (hdl : ds.length = m * sz)
    (hds : ∀ (j : Nat) (d : AV) (x : Value), ds[j]? = some d → news[j]? = some x → VRel (Nh A σ.h ρ w) ρ w d x ∧ x.oneCell' = true) (hmax : n + m ≤ maxLen)
    (hg : (v'.ownBlock = v.ownBlock ∧ w.grownBy w' v.ownBlock) ∨ (v'.ownBlock = some w.heap.size ∧ w.grownBy w' none)) :
    ∃ ρ', HSat A ρ' (upd (upd σ.h c none) c' (some (.tip E sz (n + m)))) (nuU σ.u [c']) w' ∧
      (∀ av y, VRel (Nh A σ.h ρ w) ρ w av y → VRel (Nh A (upd (upd σ.h c none) c' (some (.tip E sz (n + m)))) ρ' w') ρ' w' av y) ∧
      VRel (Nh A (upd (upd σ.h c none) c' (some (.tip E sz (n + m)))) ρ' w') ρ' w' (.sl (some c') (n + m) (cs ++ ds)) v' := by
  have hne : ∀ i, σ.u i = true → i ≠ c' := fun i hi e => by subst e; rw [hu] at hi; cases hi
  have htip : ρ.tip c = some v := by cases hv with | sl o n cs a cap vals hc hcs ho hn hz hm => exact ho c rfl
  have hcc : c ≠ c' := hne c (H.usedT c v htip)
  let ρ' : Env := ⟨ρ.blk, upd ρ.tip c' (some v')⟩
  have hold : ∀ i, i ≠ c' → ρ'.blk i = ρ.blk i ∧ ρ'.tip i = ρ.tip i := fun i hi => ⟨rfl, upd_ne _ _ hi⟩
  have hnew : ρ'.tip c' = some v' := upd_same _ _ _
  have hle : ρ.le ρ' := ⟨fun i b hb => hb, fun i b hb => by rw [(hold i (hne i (H.usedT i b hb))).2]; exact hb⟩
  have hgB : w.os = w'.os ∧ w.tape = w'.tape ∧ w.output = w'.output ∧ w.heap.size ≤ w'.heap.size ∧ ∀ k, k < w.heap.size → some k ≠ v.ownBlock → w'.heap[k]? = w.heap[k]? := by
    rcases hg with ⟨-, h⟩ | ⟨-, h⟩
    · exact ⟨h.os.symm, h.tape.symm, h.output.symm, h.size, h.block⟩
    · exact ⟨h.os.symm, h.tape.symm, h.output.symm, h.size, fun k hk _ => h.block k hk (by simp)⟩
  obtain ⟨ho1, ho2, ho3, ho4, ho5⟩ := hgB
  /- the block of the row that was -/
  have hvat : ∀ g, v.ownBlock = some g → (AO.tip E sz n).at_ ρ c g ∧ g < w.heap.size := by
    intro g hgv
    rcases hxs.2 with ⟨rfl, -⟩ | ⟨g', cap, cur, rfl, -, hh, -⟩
    · cases hgv
    · cases hgv
      exact ⟨⟨cap, htip⟩, (Array.getElem?_eq_some_iff.1 hh).1⟩
  have hatv : ∀ b, (AO.tip E sz n).at_ ρ c b → v.ownBlock = some b := by
    rintro b ⟨cap, h⟩
    rw [htip] at h
    cases h
    rfl
  have hcase : ∀ i ob, upd (upd σ.h c none) c' (some (AO.tip E sz (n + m))) i = some ob → (i = c' ∧ ob = .tip E sz (n + m)) ∨ (i ≠ c' ∧ i ≠ c ∧ σ.h i = some ob) := by
    intro i ob hi
    rcases upd_eq_some hi with ⟨rfl, h⟩ | ⟨h1, h⟩
    · cases h; exact .inl ⟨rfl, rfl⟩
    · rcases upd_eq_some h with ⟨h2, h3⟩ | ⟨h2, h3⟩
      · cases h3
      · exact .inr ⟨h1, h2, h3⟩
  have hat' : ∀ b, (AO.tip E sz (n + m)).at_ ρ' c' b → v'.ownBlock = some b := by
    rintro b ⟨cap, h⟩
    rw [hnew] at h
    cases h
    rfl
  have hother : ∀ i ob b, i ≠ c → σ.h i = some ob → ob.at_ ρ i b → some b ≠ v.ownBlock := by
    intro i ob b hi hσ hat he
    exact hi (H.sep i c ob _ b hσ hc hat (hvat b he.symm).1)
  /- cells ahead of the tip stand -/
  have hcells : ∀ b o, Nh A σ.h ρ w b o → w'.cell? ⟨b, o, none⟩ = w.cell? ⟨b, o, none⟩ := by
    intro b o hn
    by_cases hbv : v.ownBlock = some b
    · have hat := hvat b hbv
      rcases hg with ⟨he, -⟩ | ⟨-, hgr⟩
      · rcases hxs.2 with ⟨rfl, -⟩ | ⟨g, cap, cur, rfl, -, hh, hn1, hn2, hn3, hn4⟩
        · cases hbv
        · cases hbv
          have hlt : o < n * sz := by
            rcases Nat.lt_or_ge o (n * sz) with h | h
            · exact h
            · exact (hn.2.2 c _ hc ⟨cap, htip, h⟩).elim
          rcases hown.2 with ⟨rfl, -⟩ | ⟨g', cap', cur', rfl, -, hh', hm1, hm2, hm3, hm4⟩
          · cases he
          · cases he
            rw [cell_of_row w' _ o cur' E (0, 0) hh', cell_of_row w _ o cur E (0, 0) hh]
            have e1 : cur'[o]? = (xs ++ news)[o]? := by
              rw [← hm4, List.getElem?_take_of_lt (by rw [Nat.add_mul]; omega)]
              simp
            have e2 : cur[o]? = xs[o]? := by
              rw [← hn4, List.getElem?_take_of_lt hlt]
              simp
            rw [e1, e2, List.getElem?_append_left (by rw [hxs.1]; exact hlt)]
      · exact grown_cells hgr hn.1 (by simp)
    · exact World.cell?_of_block (w := w) (ho5 b hn.1 (fun e => hbv e.symm))
  have hown' : ∀ b, v'.ownBlock = some b → v.ownBlock = some b ∨ b = w.heap.size := by
    intro b hb
    rcases hg with ⟨he, -⟩ | ⟨he, -⟩
    · rw [he] at hb; exact .inl hb
    · rw [he] at hb; cases hb; exact .inr rfl
  obtain ⟨HN, hV⟩ := H.next (ρ' := ρ') (h' := upd (upd σ.h c none) c' (some (.tip E sz (n + m)))) (u' := nuU σ.u [c']) (w' := w') ho1.symm ho2.symm ho3.symm ho4
    (fun i hi => ⟨by rw [nuU_eq, hi]; rfl, hold i (hne i hi)⟩)
    (fun i b hb => by rw [nuU_eq, H.usedB i b hb]; rfl)
    (fun i b hb => by
      rw [nuU_eq]
      by_cases hi : i = c'
      · subst hi; simp
      · rw [(hold i hi).2] at hb; rw [H.usedT i b hb]; rfl)
    (fun k hk hno => ho5 k hk (fun e => hno c _ hc (hvat k e.symm).1))
    hcells
    (fun i ob b o hi hw => by
      rcases hcase i ob hi with ⟨rfl, rfl⟩ | ⟨h1, h2, hσ⟩
      · obtain ⟨cap, ht, hoo⟩ := hw
        rw [hnew] at ht
        have hb' : v'.ownBlock = some b := by cases ht; rfl
        rcases hown' b hb' with h | h
        · obtain ⟨⟨cap', ht'⟩, -⟩ := hvat b h
          exact .inl ⟨c, _, hc, cap', ht', by rw [Nat.add_mul] at hoo; omega⟩
        · exact .inr (by omega)
      · exact .inl ⟨i, ob, hσ, (H.heap i ob hσ).wr_back hle hw⟩)
    (fun i ob b hi hw => by
      rcases hcase i ob hi with ⟨rfl, rfl⟩ | ⟨h1, h2, hσ⟩
      · rcases hown' b (hat' b hw) with h | h
        · exact .inl ⟨c, _, hc, (hvat b h).1⟩
        · exact .inr (by omega)
      · exact .inl ⟨i, ob, hσ, (H.heap i ob hσ).at_back hle hw⟩)
    (fun i j oi oj b hi hj h1 h2 => by
      have far : ∀ k ok, k ≠ c → σ.h k = some ok → ok.at_ ρ k b → v'.ownBlock = some b → False := by
        intro k ok hk hσ hat hb
        rcases hown' b hb with h | h
        · exact hother k ok b hk hσ hat h.symm
        · have := (H.heap k ok hσ).lt hat; omega
      rcases hcase i oi hi with ⟨rfl, rfl⟩ | ⟨k1, k2, hσ⟩ <;> rcases hcase j oj hj with ⟨rfl, rfl⟩ | ⟨k3, k4, hσ'⟩
      · rfl
      · exact (far j oj k4 hσ' ((H.heap j oj hσ').at_back hle h2) (hat' b h1)).elim
      · exact (far i oi k2 hσ ((H.heap i oi hσ).at_back hle h1) (hat' b h2)).elim
      · exact H.sep i j oi oj b hσ hσ' ((H.heap i oi hσ).at_back hle h1) ((H.heap j oj hσ').at_back hle h2))
    (fun hV i ob hi => by
      rcases hcase i ob hi with ⟨rfl, rfl⟩ | ⟨h1, h2, hσ⟩
      · rcases hown.2 with ⟨rfl, h0⟩ | ⟨g, cap, cur, rfl, -, hh, hn1, hn2, hn3, -⟩
        · exact .inl ⟨hnew, h0⟩
        · exact .inr ⟨g, cap, cur, hnew, hh, hn1, hn2, hn3⟩
      · exact (H.heap i ob hσ).keep hle hV fun b hb => ho5 b ((H.heap i ob hσ).lt hb) (hother i ob b h2 hσ hb))
  refine ⟨ρ', HN, hV, ?_⟩
  rcases hown.2 with ⟨rfl, h0⟩ | ⟨g, cap, cur, rfl, -, hh, hn1, hn2, hn3, hn4⟩
  · have hz : (cs ++ ds).length = 0 := by rw [List.length_append, hl, hdl, ← Nat.add_mul, h0, Nat.zero_mul]
    have hz' := List.eq_nil_of_length_eq_zero hz
    rw [hz', h0]
    refine .sl _ _ _ _ _ (fun _ => undef) (fun i hi => by simp at hi) (fun i c hc => by simp at hc) (fun k hk => by cases hk; exact hnew) (Nat.le_refl _) (fun _ => rfl) (by unfold maxLen; omega)
  · have hlen : (cs ++ ds).length = (n + m) * sz := by rw [List.length_append, hl, hdl, Nat.add_mul]
    have hmul := Nat.mul_le_mul_right sz hn1
    have hcell : ∀ i, i < (n + m) * sz → w'.cell? ⟨g, 0 + i, none⟩ = some ((xs ++ news).getD i undef) := by
      intro i hi
      rw [cell_of_row w' g (0 + i) cur E (0, 0) hh, Nat.zero_add]
      have e1 : cur[i]? = (xs ++ news)[i]? := by
        rw [← hn4, List.getElem?_take_of_lt hi]
        simp
      rw [e1, List.getD_eq_getElem?_getD, List.getElem?_eq_getElem (by rw [hown.1]; exact hi)]
      rfl
    have hval : ∀ i (d : AV), (cs ++ ds)[i]? = some d → VRel (Nh A σ.h ρ w) ρ w d ((xs ++ news).getD i undef) ∧ ((xs ++ news).getD i undef).oneCell' = true := by
      intro i d hd
      have hi := (List.getElem?_eq_some_iff.1 hd).1
      rw [List.length_append] at hi
      by_cases hic : i < cs.length
      · rw [List.getElem?_append_left hic] at hd
        rw [List.getD_eq_getElem?_getD, List.getElem?_append_left (by rw [hxs.1, ← hl]; exact hic)]
        cases hv with
        | sl o n cs a cap' vals hcv hcsv ho hn hz hm =>
          obtain ⟨k1, b, off, rfl, k2, k3⟩ := hcv i hic
          rcases hxs.2 with ⟨he, -⟩ | ⟨g2, cap2, cur2, he, -, hh2, -, -, -, hn42⟩
          · cases he
          · cases he
            have hx2 : w.cell? ⟨b, 0 + i, none⟩ = xs[i]? := by
              rw [cell_of_row w b (0 + i) cur2 E (0, 0) hh2, Nat.zero_add, ← hn42, List.getElem?_take_of_lt (by rw [← hl]; exact hic)]
              simp
            rw [k2] at hx2
            rw [← hx2]
            exact ⟨hcsv i d hd, k1⟩
      · rw [List.getElem?_append_right (by omega)] at hd
        have hxl : xs.length ≤ i := by rw [hxs.1, ← hl]; omega
        rw [List.getD_eq_getElem?_getD, List.getElem?_append_right hxl]
        have hj : i - xs.length = i - cs.length := by rw [hxs.1, hl]
        rw [hj]
        have hlt : i - cs.length < news.length := by rw [hnews, ← hdl]; omega
        have := hds (i - cs.length) d news[i - cs.length] hd (List.getElem?_eq_getElem hlt)
        rw [List.getElem?_eq_getElem hlt]
        exact this
    refine .sl _ _ _ _ _ (fun i => (xs ++ news).getD i undef) (fun i hi => ?_) (fun i d hd => hV _ _ (hval i d hd).1) (fun k hk => by cases hk; exact hnew) hn1 (fun h => by cases h) hn2
    have hi' : i < (n + m) * sz := by rw [← hlen]; exact hi
    refine ⟨(hval i _ (List.getElem?_eq_getElem hi)).2, g, 0, rfl, hcell i hi', ?_⟩
    refine ⟨(Array.getElem?_eq_some_iff.1 hh).1, ?_, ?_⟩
    · rcases hown' g rfl with h | h
      · by_cases hic : i < cs.length
        · cases hv with
          | sl o n cs a cap' vals hcv hcsv ho hn hz hm =>
            obtain ⟨k1, b, off, rfl, k2, k3⟩ := hcv i hic
            cases h
            rcases hxs.2 with ⟨he, -⟩ | ⟨g2, cap2, cur2, he, -⟩
            · cases he
            · cases he; exact k3.2.1
        · obtain ⟨⟨cap', ht'⟩, -⟩ := hvat g h
          have := H.own c _ g (0 + i) hc ⟨cap', ht', by rw [← hl]; omega⟩
          exact .inr this
      · have := H.size
        exact .inr (.inr (by omega))
    · intro k ok hk hw
      rcases hcase k ok hk with ⟨rfl, rfl⟩ | ⟨h1, h2, hσ⟩
      · obtain ⟨cap', ht, hoo⟩ := hw
        omega
      · have hw' := AO.at_of_wr ((H.heap k ok hσ).wr_back hle hw)
        rcases hown' g rfl with h | h
        · exact hother k ok g h2 hσ hw' h.symm
        · have := (H.heap k ok hσ).lt hw'; omega

theorem OpS.append {E t tx : TypeId} {inf : TypeInfo} {z : Value} {s x : Operand} {c n m sz bb : Nat} {cs ds : List AV} {y : AV} (c' : Nat) (ht : P.underlying t = some (.slice E)) (hi : P.info? E = some inf) (hz : inf.zero = some z) (hsz : inf.size = sz) (hzs : z.cells.size = sz) (h0 : 0 < sz)
    (hs : SrcA P sz tx y m ds) (hl : cs.length = n * sz) (hdl : ds.length = m * sz) (hmax : n + m ≤ maxLen) (hbb : inf.bytes = bb) (hb : (n + m) * bb ≤ 140737488355328) :
    OpS P G ⟨dst, .call ⟨.builtin .append, #[s, x], #[t, tx]⟩, ty, pos, aft, gd⟩ [(s, .sl (some c) n cs), (x, y)] [(c, .tip E sz n)] ⟨some (.sl (some c') (n + m) (cs ++ ds)), [(c, none), (c', some (.tip E sz (n + m)))], [c']⟩ := by
  subst hbb
  refine OpS.act fun A ρ σ a w _ h hp hu hst => ?_
  have hv := hst.ev h.1
  obtain ⟨news, hsrc, hds⟩ := hs _ _ _ _ (hst.ev h.2.1)
  obtain ⟨xs, hxs⟩ : ∃ xs, w.ownsRow 0 E sz (a.eval s) n xs := by
    have htip : ρ.tip c = some (a.eval s) := by
      generalize a.eval s = v at hv
      cases hv with | sl o n cs ad cap vals hc hcs ho hn hz hm => exact ho c rfl
    rcases hst.mem.heap c _ hp.1 with ⟨h1, h2⟩ | ⟨g, cap, cur, h1, h2, h3, h4, h5⟩
    · rw [htip] at h1
      injection h1 with h1
      exact ⟨[], by subst h2; simp, .inl ⟨h1, h2⟩⟩
    · rw [htip] at h1
      have he : a.eval s = .slice (some ⟨g, 0, none⟩) n cap := by injection h1
      refine ⟨cur.toList.take (n * sz), ?_, .inr ⟨g, cap, cur, he, Nat.zero_le _, h2, h3, h4, h5, rfl⟩⟩
      have := Nat.mul_le_mul_right sz h3
      simp; omega
  obtain ⟨v', w', hr, hown, hg⟩ := run_append_two (P := P) w t tx ty E inf z sz ht hi hz hsz hzs h0 _ n xs hxs _ m news hsrc hmax hb
  obtain ⟨ρ', k1, k2, k3⟩ := append_tip (σ := σ) hst.mem hp.1 hu.1 hv hl hxs hown hsrc.newsLen hdl (fun j d x hj hx => ⟨hds j d x hj hx, hsrc.one x (List.mem_of_getElem? hx)⟩) hmax hg
  obtain ⟨css, he⟩ := exec_b2 a.eval .append s x #[t, tx] (dst := dst) (ty := ty) (pos := pos) (aft := aft) (gd := gd)
  refine ⟨v', w', ρ', .inl ?_, k1, k2, fun v hv' => by cases hv'; exact k3⟩
  rw [he]
  exact runv (s := Builtin.append_ #[t, tx] ty #[a.eval s, a.eval x]) hr
end
end Go.Proofs.YtmifllopcbjliaaDoor.E
