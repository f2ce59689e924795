/- What is written is read again. Conditions: each theorem names its own. -/
import Derived.Test.YtolmcapbpliaiaaDoorProg
import Derived.Test.YtolmcapbpliaiaaDoorFm
namespace Go.Proofs.YtolmcapbpliaiaaDoor
open Go.Abs
set_option linter.unusedVariables false
set_option linter.unusedSimpArgs false

set_option linter.unusedVariables false

/-! ### What is written, line by line -/
def othr (L R : List Ag) (b : Bool) : List Ag := if b = true then R else L
def alL (L R : List Ag) : List (Bool × Ag) := L.map (fun a => (true, a)) ++ R.map (fun a => (false, a))
def sideW (b : Bool) : List UInt8 := if b = true then [108, 101, 102, 116] else [114, 105, 103, 104, 116]
def joinW (ws : List (List UInt8)) : List UInt8 := ws.flatMap fun w => 32 :: w
def rmW (rm : Int) : List (List UInt8) := if rm = 1 then [] else [[UInt8.ofNat (48 + rm).toNat]]
def tlW (O : List Ag) (a : Ag) : List (List UInt8) := bL a.1 :: (rmW a.2.1 ++ ([58] :: a.2.2.1.map (fun q => bL (nmF O q.toNat))))
def lineB (b : Bool) (O : List Ag) (a : Ag) : List UInt8 := sideW b ++ joinW (tlW O a)
theorem joinW_app (a b : List (List UInt8)) : joinW (a ++ b) = joinW a ++ joinW b := by simp [joinW]
theorem joinW_cons (a : List UInt8) (b : List (List UInt8)) : joinW (a :: b) = (32 :: a) ++ joinW b := by simp [joinW]
theorem joinW_nil : joinW [] = [] := rfl
theorem take_getD_succ {α : Type} {l : List α} {k : Nat} (hk : k < l.length) (d : α) : l.take (k + 1) = l.take k ++ [l.getD k d] := by
  rw [List.take_add_one, List.getElem?_eq_getElem hk, List.getD_eq_getElem?_getD, List.getElem?_eq_getElem hk]
  rfl
theorem lkS_bytes (O : List Ag) (lk : List Int) (s : ByteArray) : ∀ k, k ≤ lk.length → bL (lkS O lk s k) = bL s ++ joinW ((lk.take k).map fun q => bL (nmF O q.toNat))
  | 0, _ => by simp [lkS, joinW]
  | k + 1, hk => by
    have ih := lkS_bytes O lk s k (by omega)
    rw [take_getD_succ (show k < lk.length by omega) 0, List.map_append, joinW_app]
    simp only [lkS, bL_app, ih, List.append_assoc]
    congr 1
    simp [joinW, sSp, bL]
theorem roomS_bytes (rm : Int) : bL (roomS rm) = joinW (rmW rm) := by
  unfold roomS rmW
  split
  · rfl
  · simp [joinW, bL_app, sSp, byteS, bL]
theorem sideT_bytes (O : List Ag) (rm : Int) (lk : List Int) : bL (sideT O rm lk) = joinW (rmW rm ++ ([58] :: lk.map (fun q => bL (nmF O q.toNat)))) ++ [10] := by
  unfold sideT
  rw [bL_app, lkS_bytes _ _ _ _ (Nat.le_refl _), List.take_length, bL_app, roomS_bytes, joinW_app, joinW_cons]
  simp [sCo, sNl, bL]
theorem pre_bytes (k : Nat) : bL (preS k) = sideW (decide (k = 0)) ++ [32] := by
  unfold preS sideW
  by_cases h : k = 0
  · simp [h, sLe, bL]
  · simp [h, sRi, bL]
theorem getD_eq {α : Type} {l : List α} {j : Nat} (hj : j < l.length) (d : α) : l.getD j d = l[j] := by
  rw [List.getD_eq_getElem?_getD, List.getElem?_eq_getElem hj]; rfl
theorem prS_bytes (k : Nat) (S O : List Ag) (s : ByteArray) : ∀ j, j ≤ S.length → bL (prS (preS k) S O s j) = bL s ++ (S.take j).flatMap fun a => lineB (decide (k = 0)) O a ++ [10]
  | 0, _ => by simp [prS]
  | j + 1, hj => by
    have ih := prS_bytes k S O s j (by omega)
    rw [take_getD_succ (show j < S.length by omega) (ByteArray.empty, 0, [], ()), List.flatMap_append]
    simp only [prS, bL_app, ih, sideT_bytes, pre_bytes, List.append_assoc]
    congr 1
    congr 1
    simp [lineB, tlW, joinW_cons, nmF, rmF, lkF]
theorem print_bytes (L R : List Ag) : bL (printS L R) = (alL L R).flatMap fun x => lineB x.1 (othr L R x.1) x.2 ++ [10] := by
  unfold printS
  simp only [accS]
  rw [prS_bytes _ _ _ _ _ (Nat.le_refl _), prS_bytes _ _ _ _ _ (Nat.le_refl _)]
  simp only [List.take_length]
  have e0 : sdF L R 0 = L := rfl
  have e1 : sdF L R 1 = R := rfl
  have f0 : otF L R 0 = R := rfl
  have f1 : otF L R 1 = L := rfl
  rw [e0, e1, f0, f1]
  simp [alL, othr, List.flatMap_append, List.flatMap_map, bL]
theorem cutB_line : ∀ (l r : List UInt8), (10 : UInt8) ∉ l → cutB 10 (l ++ 10 :: r) = l :: cutB 10 r
  | [], r, _ => by simp [cutB]
  | b :: l, r, h => by
    have hb : b ≠ 10 := fun e => h (by simp [e])
    have ih := cutB_line l r fun hm => h (List.mem_cons_of_mem _ hm)
    exact cutB_cons_ne hb ih
theorem cutB_lines : ∀ (ls : List (List UInt8)), (∀ l, l ∈ ls → (10 : UInt8) ∉ l) → cutB 10 (ls.flatMap fun l => l ++ [10]) = ls ++ [[]]
  | [], _ => rfl
  | l :: ls, h => by
    have ih := cutB_lines ls fun l hl => h l (List.mem_cons_of_mem _ hl)
    rw [List.flatMap_cons, List.append_assoc, List.singleton_append]
    rw [cutB_line l _ (h l List.mem_cons_self), ih]
    rfl
theorem words_join : ∀ (ws : List (List UInt8)) (cur : List UInt8), cur ≠ [] → (∀ w, w ∈ ws → w ≠ [] ∧ ∀ b, b ∈ w → isBl b = false) → wordsGo cur (joinW ws) = cur :: ws
  | [], cur, hc, _ => by simp [joinW, wordsGo, hc]
  | w :: ws, cur, hc, h => by
    have hw := h w List.mem_cons_self
    have ih := words_join ws w hw.1 fun v hv => h v (List.mem_cons_of_mem _ hv)
    rw [joinW_cons, List.cons_append, wordsGo, if_pos (by decide), if_neg hc, wordsGo_skip w [] _ hw.2, List.nil_append, ih]

/-! ### Names -/
theorem named_byte {s : ByteArray} (h : namedF s = true) : s ≠ ⟨#[]⟩ ∧ ∀ b, b ∈ bL s → 48 ≤ b.toNat := by
  unfold namedF at h
  simp only [Bool.and_eq_true, Bool.not_eq_true', Option.isNone_iff_eq_none] at h
  refine ⟨fun e => ?_, fun b hb => ?_⟩
  · have := h.1
    unfold noB at this
    simp [e] at this
  · obtain ⟨i, hi, rfl⟩ := List.getElem_of_mem hb
    have hi' : i < s.size := by rw [size_list]; exact hi
    have := firstI_none h.2 i hi'
    have hba : byteAt s i = ((bL s)[i].toNat : Nat) := by
      unfold byteAt
      rw [getD_eq hi]
    unfold badB letB figB at this
    rw [hba] at this
    simp only [Bool.and_eq_false_iff, Bool.not_eq_false', Bool.and_eq_true, decide_eq_true_eq, Bool.or_eq_false_iff, decide_eq_false_iff_not, Bool.not_eq_true'] at this
    rcases this with h1 | ⟨_, h1 | h1⟩ <;> omega
theorem byte_good {b : UInt8} (h : 48 ≤ b.toNat) : b ≠ 10 ∧ isBl b = false := by
  refine ⟨fun e => by subst e; simp at h, ?_⟩
  unfold isBl
  rw [Bool.or_eq_false_iff]
  constructor <;> refine beq_eq_false_iff_ne.2 fun e => ?_ <;> subst e <;> simp at h
structure AgOk (O : List Ag) (a : Ag) : Prop where
  nm : namedF a.1 = true
  rm : 1 ≤ a.2.1 ∧ a.2.1 ≤ 4
  lk : ∀ q, q < a.2.2.1.length → 0 ≤ a.2.2.1.getD q 0 ∧ a.2.2.1.getD q 0 < (O.length : Nat)
  pl : ∀ q, q < a.2.2.1.length → ¬ placeF a.2.2.1 (a.2.2.1.getD q 0) < (q : Nat)
  on : ∀ i, i < O.length → namedF (nmF O i) = true
theorem dig_nat {rm : Int} (h : 1 ≤ rm ∧ rm ≤ 4) : (UInt8.ofNat (48 + rm).toNat).toNat = 48 + rm.toNat := by
  rw [show (48 + rm).toNat = 48 + rm.toNat by omega]
  have : rm.toNat ≤ 4 := by omega
  generalize rm.toNat = n at *
  simp
  omega
theorem AgOk.word {O : List Ag} {a : Ag} (h : AgOk O a) : ∀ w, w ∈ tlW O a → w ≠ [] ∧ ∀ b, b ∈ w → 48 ≤ b.toNat := by
  have hn : ∀ s, namedF s = true → bL s ≠ [] ∧ ∀ b, b ∈ bL s → 48 ≤ b.toNat := fun s hs =>
    ⟨fun e => (named_byte hs).1 (emp_data.2 e), (named_byte hs).2⟩
  intro w hw
  unfold tlW at hw
  simp only [List.mem_cons, List.mem_append, List.mem_map] at hw
  rcases hw with rfl | hw | rfl | ⟨q, hq, rfl⟩
  · exact hn _ h.nm
  · unfold rmW at hw
    split at hw
    · simp at hw
    · simp only [List.mem_singleton] at hw
      subst hw
      refine ⟨by simp, fun b hb => ?_⟩
      simp only [List.mem_singleton] at hb
      subst hb
      rw [dig_nat h.rm]; omega
  · refine ⟨by simp, fun b hb => ?_⟩
    simp only [List.mem_singleton] at hb
    subst hb; decide
  · obtain ⟨i, hi, rfl⟩ := List.getElem_of_mem hq
    have := h.lk i hi
    rw [getD_eq hi] at this
    exact hn _ (h.on _ (by omega))
theorem side_byte (b : Bool) : ∀ c, c ∈ sideW b → 48 ≤ c.toNat := by
  cases b <;> (intro c hc; simp [sideW] at hc; rcases hc with rfl | rfl | rfl | rfl | rfl <;> decide)
theorem AgOk.line10 {O : List Ag} {a : Ag} (h : AgOk O a) (b : Bool) : (10 : UInt8) ∉ lineB b O a := by
  intro hm
  unfold lineB joinW at hm
  rcases List.mem_append.1 hm with hm | hm
  · have := side_byte b _ hm; simp at this
  · obtain ⟨w, hw, hc⟩ := List.mem_flatMap.1 hm
    rcases List.mem_cons.1 hc with hc | hc
    · simp at hc
    · have := (h.word w hw).2 _ hc; simp at this
theorem AgOk.words {O : List Ag} {a : Ag} (h : AgOk O a) (b : Bool) : wordsGo [] (lineB b O a) = sideW b :: tlW O a := by
  unfold lineB
  rw [wordsGo_skip (sideW b) [] _ fun c hc => (byte_good (side_byte b c hc)).2, List.nil_append]
  exact words_join _ _ (by cases b <;> simp [sideW]) fun w hw => ⟨(h.word w hw).1, fun c hc => (byte_good ((h.word w hw).2 c hc)).2⟩
/-- The words of a line. -/
def wsO (b : Bool) (O : List Ag) (a : Ag) : List ByteArray := (if b = true then sLeft else sRight) :: a.1 :: ((if a.2.1 = 1 then [] else [byteS (48 + a.2.1)]) ++ (colS :: a.2.2.1.map (fun q => nmF O q.toNat)))
theorem AgOk.wordsL {O : List Ag} {a : Ag} (h : AgOk O a) (b : Bool) : wordsL (bs (lineB b O a)) = wsO b O a := by
  have e : (bs (lineB b O a)).data.toList = lineB b O a := data_bs _
  unfold Go.Proofs.YtolmcapbpliaiaaDoor.wordsL
  rw [e, h.words b]
  unfold tlW wsO rmW
  simp only [List.map_cons, List.map_append, List.map_map]
  have e1 : bs (sideW b) = if b = true then sLeft else sRight := by cases b <;> rfl
  have e2 : ∀ s, bs (bL s) = s := bs_data
  rw [e1, e2]
  congr 1
  congr 1
  congr 1
  · split <;> simp [byteS, bs]

/-! ### A line, read again -/
def lnOf (b : Bool) (O : List Ag) (a : Ag) : Ln := (b, a.1, a.2.1, [], a.2.2.1.map (fun q => nmF O q.toNat))
theorem dup_none {all : List Ln} {nm : ByteArray} (h : ∀ i, i < all.length → lnN all i ≠ nm) : firstE (dupB all nm) all.length = 0 := by
  have : ∀ n, n ≤ all.length → firstE (dupB all nm) n = 0 := by
    intro n
    induction n with
    | zero => intro _; rfl
    | succ n ih => intro hn; exact firstE_succ (ih (by omega)) (if_neg (h n (by omega)))
  exact this _ (Nat.le_refl _)
theorem firstE_zero' {f : Nat → Int} : ∀ {n : Nat}, (∀ j, j < n → f j = 0) → firstE f n = 0
  | 0, _ => rfl
  | n + 1, h => firstE_succ (firstE_zero' fun j hj => h j (by omega)) (h n (by omega))
theorem likes_named {O : List Ag} {a : Ag} (h : AgOk O a) : firstE (badN (a.2.2.1.map (fun q => nmF O q.toNat))) (a.2.2.1.map (fun q => nmF O q.toNat)).length = 0 := by
  refine firstE_zero' fun j hj => ?_
  rw [List.length_map] at hj
  unfold badN
  have e : (a.2.2.1.map (fun q => nmF O q.toNat)).getD j ByteArray.empty = nmF O (a.2.2.1.getD j 0).toNat := by
    rw [getD_eq (by simpa using hj), getD_eq hj, List.getElem_map]
  have := h.lk j hj
  rw [e, h.on _ (by omega)]
  simp
theorem dig_room {rm : Int} (h : 1 ≤ rm ∧ rm ≤ 4) : byteS (48 + rm) ≠ colS ∧ roomE (byteS (48 + rm)) = 0 ∧ roomV (byteS (48 + rm)) = rm := by
  have : ∀ n : Fin 4, byteS (48 + ((n.val + 1 : Nat) : Int)) ≠ colS ∧ roomE (byteS (48 + ((n.val + 1 : Nat) : Int))) = 0 ∧ roomV (byteS (48 + ((n.val + 1 : Nat) : Int))) = ((n.val + 1 : Nat) : Int) := by decide +kernel
  have := this ⟨(rm - 1).toNat, by omega⟩
  simp only at this
  rwa [show (((rm - 1).toNat + 1 : Nat) : Int) = rm by omega] at this
theorem AgOk.read {O : List Ag} {a : Ag} (h : AgOk O a) (b : Bool) {all : List Ln} (hd : ∀ i, i < all.length → lnN all i ≠ a.1) (hc : cntL all b all.length ≠ 6) : rdE (wsO b O a) all = 0 ∧ rdV (wsO b O a) = lnOf b O a := by
  have hs0 : side0 (wsO b O a) = false := by
    unfold side0 wsO
    cases b <;> simp
  have hlf : lfB (wsO b O a) = b := by
    unfold lfB wsO
    cases b
    · simp [sLeft, sRight]
    · simp
  have h1 : (wsO b O a).getD 1 ByteArray.empty = a.1 := rfl
  have hlen : 2 ≤ (wsO b O a).length := by simp [wsO]
  have hd2 : (wsO b O a).drop 2 = (if a.2.1 = 1 then [] else [byteS (48 + a.2.1)]) ++ (colS :: a.2.2.1.map (fun q => nmF O q.toNat)) := rfl
  have ht : tailE (colS :: a.2.2.1.map (fun q => nmF O q.toNat)) = 0 := by
    rw [tailE_n (by simp; omega) (by simp)]
    exact likes_named h
  by_cases hr : a.2.1 = 1
  · have hd2' : (wsO b O a).drop 2 = colS :: a.2.2.1.map (fun q => nmF O q.toNat) := by rw [hd2, if_pos hr]; rfl
    have hro : roomed (wsO b O a) = false := by unfold roomed; rw [hd2']; simp
    refine ⟨?_, ?_⟩
    · have hB : RdB (wsO b O a) all := ⟨⟨hs0, by omega, by rw [h1, h.nm]; simp⟩, by rw [h1]; exact dup_none hd, by rw [hlf]; exact hc⟩
      rw [hB.tail0 hro, hd2', ht]
    · unfold rdV rdRm rdLk
      rw [hlf, h1, if_neg (by simp [hro]), if_neg (by simp [hro]), hd2', hr.symm]
      rfl
  · have hdr := dig_room h.rm
    have hd2' : (wsO b O a).drop 2 = byteS (48 + a.2.1) :: colS :: a.2.2.1.map (fun q => nmF O q.toNat) := by rw [hd2, if_neg hr]; rfl
    have hro : roomed (wsO b O a) = true := by unfold roomed; rw [hd2']; simp [hdr.1]; omega
    have hg : ((wsO b O a).drop 2).getD 0 ByteArray.empty = byteS (48 + a.2.1) := by rw [hd2']; rfl
    refine ⟨?_, ?_⟩
    · have hB : RdB (wsO b O a) all := ⟨⟨hs0, by omega, by rw [h1, h.nm]; simp⟩, by rw [h1]; exact dup_none hd, by rw [hlf]; exact hc⟩
      rw [hB.tail1 hro (by rw [hg]; exact hdr.2.1), hd2']
      exact ht
    · unfold rdV rdRm rdLk
      rw [hlf, h1, if_pos hro, if_pos hro, hg, hdr.2.2, hd2']
      rfl

end Go.Proofs.YtolmcapbpliaiaaDoor

