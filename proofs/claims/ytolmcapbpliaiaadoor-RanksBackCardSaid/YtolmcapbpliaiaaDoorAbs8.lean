/- Slices that the call owns: made, filled, appended to, read, handed on. Conditions: each law names its own. -/
import Derived.Test.YtolmcapbpliaiaaDoorAbs7
namespace Go.Abs
set_option linter.unusedVariables false

section app
variable {P : Program} (w : World)
theorem run_append_room_at (t tx ty e : TypeId) (i : TypeInfo) (ht : P.underlying t = some (.slice e)) (hi : P.info? e = some i) (g sLen sCap : Nat) (cur : Array Value) (hg : w.heap[g]? = some (.cells cur e (0, 0)))
    (x : Value) (m : Nat) (news : List Value) (hs : Src P i.size tx x m news w) (hroom : sLen + m ≤ sCap) (hfit : sLen * i.size + news.length ≤ cur.size) :
    (Builtin.append_ #[t, tx] ty #[.slice (some ⟨g, 0, none⟩) sLen sCap, x]).run P w =
      .ok (.slice (some ⟨g, 0, none⟩) (sLen + m) sCap) (w.setRow g (cur.toList.take (sLen * i.size) ++ news ++ cur.toList.drop (sLen * i.size + news.length)).toArray) := by
  have hst := run_storeCells_at P g (sLen * i.size) e news 0 cur w hg (by simpa using hfit) hs.one
  simp only [Nat.add_zero] at hst
  rcases hs.kind with ⟨e', hk⟩ | hk <;> simp [Builtin.append_, run_underlying ht, run_underlying hk, sizeOf, typeInfo, hi, hs.len, hroom, hs.cells, Addr.add_lit, hst]

/-- APPEND ONTO AN OWNED ROW, from whatever source: it is owned behind, in the same block or in a new one. -/
theorem append_own (t tx ty e : TypeId) (i : TypeInfo) (z : Value) (size bytes : Nat) (ht : P.underlying t = some (.slice e)) (hi : P.info? e = some i) (hz : i.zero = some z) (hsize : i.size = size) (hby : i.bytes = bytes)
    (hzs : z.cells.size = size) (v : Value) (n : Nat) (xs : List Value) (hown : w.ownsRow 0 e size v n xs) (x : Value) (m : Nat) (news : List Value) (hs : Src P size tx x m news w) (h63 : n + m ≤ maxLen)
    (hbytes : (n + m) * bytes ≤ 140737488355328) :
    ∃ v' w', (Builtin.append_ #[t, tx] ty #[v, x]).run P w = .ok v' w' ∧ w'.ownsRow 0 e size v' (n + m) (xs ++ news) ∧ w.grownBy w' v.ownBlock ∧ ∀ b, v'.ownBlock = some b → w.heap.size ≤ b ∨ v.ownBlock = some b := by
  subst hsize
  subst hby
  have hsmall : n + m ≤ 9223372036854775807 := by simp only [maxLen] at h63; omega
  have hlen : (xs ++ news).length = (n + m) * i.size := by rw [List.length_append, hown.1, hs.newsLen, Nat.add_mul]
  have grown : ∀ (old : Nat) (row : Option Nat), old < n + m →
      (w.drew.alloc (.cells ((xs ++ news).toArray ++ Builtin.zeroCells z.cells (grownCap w (n + m) old e - (n + m))) e)).ownsRow 0 e i.size
        (.slice (some ⟨w.heap.size, 0, none⟩) (n + m) (grownCap w (n + m) old e)) (n + m) (xs ++ news) ∧
      w.grownBy (w.drew.alloc (.cells ((xs ++ news).toArray ++ Builtin.zeroCells z.cells (grownCap w (n + m) old e - (n + m))) e)) row := by
    intro old row ho
    have hge := grownCap_ge w (n + m) old e
    have hcm : grownCap w (n + m) old e ≤ maxLen := grownCap_le_maxLen w (n + m) old e h63
    refine ⟨⟨hlen, .inr ⟨w.heap.size, _, _, rfl, Nat.zero_le _, heap_alloc_new w.drew _, hge, hcm, ?_, ?_⟩⟩, ⟨rfl, rfl, rfl, by simp, fun k hk hr => Go.RowKit.Below.heap_alloc w.drew _ k hk⟩⟩
    · simp only [Array.size_append, List.size_toArray, size_zeroCells, hzs, hlen, ← Nat.add_mul]
      congr 1
      omega
    · rw [Array.toList_append]
      rw [← hlen]
      exact List.take_left
  rcases hown.2 with ⟨rfl, rfl⟩ | ⟨g, cap, cur, rfl, hbg, hg, hnc, hcm, hcs, htake⟩
  · have hx : xs = [] := List.eq_nil_of_length_eq_zero (by simpa using hown.1)
    subst hx
    by_cases hm : m = 0
    · subst hm
      have hn : news = [] := List.eq_nil_of_length_eq_zero (by simpa using hs.newsLen)
      subst hn
      refine ⟨.slice none 0 0, w, ?_, World.ownsRow_nil w 0 e i.size, grownBy_refl w _, by simp [Value.ownBlock]⟩
      rcases hs.kind with ⟨e', hk⟩ | hk <;> simp [Builtin.append_, run_underlying ht, run_underlying hk, sizeOf, typeInfo, hi, hs.len, hs.cells]
    · have hr := run_append_grow_src (P := P) w t tx ty e i z ht hi hz none 0 0 [] (by simp [Builtin.firstCells]) x m news hs (by omega) (by omega) (growslice_fits (by omega) (by simpa using hbytes))
      have hgr := grown 0 (Value.ownBlock (.slice none 0 0)) (by omega)
      exact ⟨_, _, hr, hgr.1, hgr.2, fun b hb => .inl (by simp [Value.ownBlock] at hb; omega)⟩
  · by_cases hroom : n + m ≤ cap
    · have hfit : n * i.size + news.length ≤ cur.size := by rw [hs.newsLen, hcs, ← Nat.add_mul]; exact Nat.mul_le_mul_right _ hroom
      have hr := run_append_room_at (P := P) w t tx ty e i ht hi g n cap cur hg x m news hs hroom hfit
      refine ⟨_, _, hr, ⟨hlen, .inr ⟨g, cap, _, rfl, hbg, setRow_heap w g cur _ e _ hg, hroom, hcm, ?_, ?_⟩⟩, ⟨rfl, rfl, rfl, by simp [World.setRow], fun k _ hk => setRow_other w g k _ (fun e => hk (by simp [Value.ownBlock, e]))⟩, fun b hb => .inr hb⟩
      · simp only [List.size_toArray, List.length_append, List.length_take, List.length_drop, Array.length_toList]
        omega
      · rw [htake, ← hlen]
        exact List.take_left
    · have hold : (Builtin.firstCells i.size n (.slice (some ⟨g, 0, none⟩) n cap)).run P w.drew = .ok xs.toArray w.drew :=
        run_firstCells_some w.drew i.size n ⟨g, 0, none⟩ n cap xs hown.1 (by have := hown.cells (g := g) rfl; simpa using this)
      have hr := run_append_grow_src (P := P) w t tx ty e i z ht hi hz (some ⟨g, 0, none⟩) n cap xs hold x m news hs (by omega) (by omega) (growslice_fits (by omega) hbytes)
      have hgr := grown cap (Value.ownBlock (.slice (some ⟨g, 0, none⟩) n cap)) (by omega)
      exact ⟨_, _, hr, hgr.1, hgr.2, fun b hb => .inl (by simp [Value.ownBlock] at hb; omega)⟩
end app

theorem RepS.ownNew {ι : Nat → Value} {w : World} {F : Nat → Prop} (id : Nat) (v : Value) : RepS (rename ι id v) w F v (.own id) := by
  have h := RepS.own (ι := rename ι id v) (w := w) (F := F) id
  rw [show rename ι id v id = v by simp [rename]] at h
  exact h

/-- The row of an element's type. -/
structure ElemTy (P : Program) (t e z bytes : Nat) (zero : Value) : Prop where
  sl : P.underlying t = some (.slice e)
  row : ∃ i, P.info? e = some i ∧ i.zero = some zero ∧ i.size = z ∧ i.bytes = bytes
  zs : zero.cells.size = z
  pos : 0 < z
  bpos : 0 < bytes

section ops
variable {P : Program} {ev : Operand → SV → Prop} {H : Heap} {dst : Option Nat} {ty : TypeId} {pos : String} {after : Array Edge} {g : Option (Nat × Bool)}

/-- What is appended: a slice that is read. -/
theorem src_seq {w : World} {F : Nat → Prop} {tx e' z : Nat} {v : Value} {α : Type} {d : α} {f : α → List PV} {l : List α} (hk : P.underlying tx = some (.slice e')) (hz : ∀ a, (f a).length = z) (h1 : ∀ a, (f a).all PV.one = true)
    (h : Rep w F v (.seq α d f l)) : ∃ news, Src P z tx v l.length news w ∧ RepL w F news (l.flatMap f) := by
  obtain ⟨a, cap, rfl, hcap, hm, h3⟩ := h.seq_inv
  rcases h3 with rfl | ⟨b, off, xs, rfl, hF, hcell, hrep⟩
  · cases a with
    | none => exact ⟨[], Src.ofNil w hk cap, .nil⟩
    | some a => exact ⟨[], Src.ofSlice w hk a 0 cap [] (by simp) (fun j u hj => by simp at hj) (fun u hu => by simp at hu), .nil⟩
  · refine ⟨xs, Src.ofSlice w hk ⟨b, off, none⟩ l.length cap xs (by rw [hrep.1, flatMap_length hz]) (fun j u hj => ?_) (fun u hu => ?_), hrep⟩
    · obtain ⟨h4, h5⟩ := List.getElem?_eq_some_iff.1 hj
      rw [Addr.add_lit, hcell j h4, h5]
    · obtain ⟨k, h4, h5⟩ := List.getElem_of_mem hu
      have h6 := hrep.2 k h4 (hrep.1 ▸ h4)
      rw [h5] at h6
      refine h6.one ?_
      have h7 := List.getElem_mem (hrep.1 ▸ h4 : k < (l.flatMap f).length)
      obtain ⟨a, ha, h8⟩ := List.mem_flatMap.1 h7
      exact List.all_eq_true.1 (h1 a) _ h8

/-- The common end of the appends: a row owned under the name id. -/
theorem RepL.app {w : World} {F : Nat → Prop} {α : Type} {f : α → List PV} {l m : List α} {xs ys : List Value} (h : RepL w F xs (l.flatMap f)) (h' : RepL w F ys (m.flatMap f)) : RepL w F (xs ++ ys) ((l ++ m).flatMap f) := by
  rw [List.flatMap_append]; exact h.append h'

/-- 'append(x, y...)', x owned: owned again. -/
theorem op_append {t tx e z bytes e' : Nat} {zero : Value} {x y : Operand} {id id' : Nat} {α : Type} {d : α} {f : α → List PV} {l m : List α} (hty : ElemTy P t e z bytes zero) (htx : P.underlying tx = some (.slice e')) (hz : ∀ a, (f a).length = z) (h1 : ∀ a, (f a).all PV.one = true)
    (hx : ev x (.own id)) (hl : List.lookup id H = some (.arr e z α d f l)) (hy : ev y (.pv (.seq α d f m))) (hm : heapMen id' H = false) (hfit : (l.length + m.length) * bytes ≤ 140737488355328) :
    OpT P ⟨dst, .call ⟨.builtin .append, #[x, y], #[t, tx]⟩, ty, pos, after, g⟩ ev H (.own id') ((id', .arr e z α d f (l ++ m)) :: hdrop id H) (some id') := by
  intro V ι w a Q hV hk hr
  have hxv := hr x (by simp [Op.operands, Call.operands]) _ hx
  have hyv := (hr y (by simp [Op.operands, Call.operands]) _ hy).pv_inv
  obtain ⟨xs, ho, hrep, _⟩ := hk.ok id _ hl
  obtain ⟨news, hs, hnews⟩ := src_seq (P := P) htx hz h1 hyv
  have hxe : a.eval x = ι id := by generalize a.eval x = v at *; cases hxv; rfl
  obtain ⟨i, hi, hz0, hsz, hby⟩ := hty.row
  have hb := hty.bpos
  obtain ⟨v', w', hrun, ho', hg, hblk⟩ := append_own (P := P) w t tx ty e i zero z bytes hty.sl hi hz0 hsz hby hty.zs (ι id) l.length xs ho (a.eval y) m.length news hs
    (by have := Nat.le_mul_of_pos_right (l.length + m.length) hb; simp only [maxLen]; omega) hfit
  rw [← blkOf_own ho] at hg
  have hst : Step V ι H w (some id') (rename ι id' v') ((id', .arr e z α d f (l ++ m)) :: hdrop id H) w' := by
    refine Step.repl hV hk hl hg hm (fun b hb => ?_) ?_
    · rw [blkOf_own ho'] at hb
      rw [blkOf_own ho]
      exact hblk b hb
    · refine ⟨xs ++ news, by simpa using ho', ?_, by have := Nat.le_mul_of_pos_right (l.length + m.length) hb; simp; omega⟩
      have hmv : ∀ {ys : List Value} {cs : List PV}, RepL w (Free V ι H w) ys cs → RepL w' (Free V (rename ι id' v') ((id', .arr e z α d f (l ++ m)) :: hdrop id H) w') ys cs := fun h =>
        h.mono (fun c hc => hg.block c hc.1 fun e => hc.2.2 ⟨id, _, hl, e.symm⟩) (fun c hc => ⟨Nat.lt_of_lt_of_le hc.1 hg.size, hc.2.1, ?_⟩)
      · exact (hmv hrep).app (hmv hnews)
      · rintro ⟨j, bl, hj, hb'⟩
        rw [List.lookup_cons] at hj
        by_cases ej : j = id'
        · subst ej
          have hb2 : blkOf v' = some c := by simpa [rename] using hb'
          rw [blkOf_own ho'] at hb2
          rcases hblk c hb2 with h5 | h5
          · have := hc.1; omega
          · exact hc.2.2 ⟨id, _, hl, by rw [blkOf_own ho]; exact h5⟩
        · rw [beq_eq_false_iff_ne.2 ej] at hj
          simp only [lookup_hdrop] at hj
          split at hj
          · simp at hj
          · exact hc.2.2 ⟨j, bl, hj, by simpa [rename, ej] using hb'⟩
  unfold Oper.wp
  have hrun' : (execOp a.eval ⟨dst, .call ⟨.builtin .append, #[x, y], #[t, tx]⟩, ty, pos, after, g⟩).run P w = .ok (.value v') w' := by
    simp [execOp, resolve, invoke, builtin, hxe, hrun]
  rw [hrun']
  refine ⟨_, v', rfl, hst, ?_⟩
  exact RepS.ownNew id' v'

/-- 'append(x, y...)', x nil: owned. -/
theorem op_appendN {t tx e z bytes e' : Nat} {zero : Value} {x y : Operand} {id' : Nat} {α : Type} {d : α} {f : α → List PV} {m : List α} (hty : ElemTy P t e z bytes zero) (htx : P.underlying tx = some (.slice e')) (hz : ∀ a, (f a).length = z) (h1 : ∀ a, (f a).all PV.one = true)
    (hx : ev x (.pv .nil)) (hy : ev y (.pv (.seq α d f m))) (hm : heapMen id' H = false) (hfit : m.length * bytes ≤ 140737488355328) :
    OpT P ⟨dst, .call ⟨.builtin .append, #[x, y], #[t, tx]⟩, ty, pos, after, g⟩ ev H (.own id') ((id', .arr e z α d f m) :: H) (some id') := by
  intro V ι w a Q hV hk hr
  have hxe := (hr x (by simp [Op.operands, Call.operands]) _ hx).pv_inv.nil_inv
  have hyv := (hr y (by simp [Op.operands, Call.operands]) _ hy).pv_inv
  obtain ⟨news, hs, hnews⟩ := src_seq (P := P) htx hz h1 hyv
  obtain ⟨i, hi, hz0, hsz, hby⟩ := hty.row
  have hb := hty.bpos
  obtain ⟨v', w', hrun, ho', hg, hblk⟩ := append_own (P := P) w t tx ty e i zero z bytes hty.sl hi hz0 hsz hby hty.zs (.slice none 0 0) 0 [] (World.ownsRow_nil w 0 e z) (a.eval y) m.length news hs
    (by have := Nat.le_mul_of_pos_right m.length hb; simp only [maxLen]; omega) (by simpa using hfit)
  have hst : Step V ι H w (some id') (rename ι id' v') ((id', .arr e z α d f m) :: H) w' := by
    refine Step.new hV hk hg hm (fun b hb => ?_) ?_
    · rw [blkOf_own ho'] at hb
      rcases hblk b hb with h5 | h5
      · exact h5
      · simp [Value.ownBlock] at h5
    · refine ⟨news, by simpa using ho', hnews.mono (fun c hc => hg.block c hc.1 (by simp [Value.ownBlock])) (fun c hc => ⟨Nat.lt_of_lt_of_le hc.1 hg.size, hc.2.1, ?_⟩), by have := Nat.le_mul_of_pos_right m.length hb; omega⟩
      rintro ⟨j, bl, hj, hb'⟩
      rw [List.lookup_cons] at hj
      by_cases ej : j = id'
      · subst ej
        have hb2 : blkOf v' = some c := by simpa [rename] using hb'
        rw [blkOf_own ho'] at hb2
        rcases hblk c hb2 with h5 | h5
        · have := hc.1; omega
        · simp [Value.ownBlock] at h5
      · rw [beq_eq_false_iff_ne.2 ej] at hj
        exact hc.2.2 ⟨j, bl, hj, by simpa [rename, ej] using hb'⟩
  unfold Oper.wp
  have hrun' : (execOp a.eval ⟨dst, .call ⟨.builtin .append, #[x, y], #[t, tx]⟩, ty, pos, after, g⟩).run P w = .ok (.value v') w' := by
    simp [execOp, resolve, invoke, builtin, hxe, hrun]
  rw [hrun']
  refine ⟨_, v', rfl, hst, ?_⟩
  exact RepS.ownNew id' v'

end ops
end Go.Abs
