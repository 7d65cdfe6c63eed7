/-
  Layer 16: numbers below one go.
-/
import Derived.Test.YthljpljbpbkkcaaDoorVaultSpecB
set_option linter.unusedVariables false
set_option linter.unusedSimpArgs false
set_option maxRecDepth 4000
namespace Go.Proofs.YthljpljbpbkkcaaDoor
open Go.Sl Go.RowKit Go.Pack Go.Vault

def putF : List (ByteArray × Int) → ByteArray → Int → List (ByteArray × Int)
  | [], f, n => [(f, n)]
  | x :: l, f, n => if x.1 = f then (f, n) :: l else x :: putF l f n
theorem lookF_put : ∀ (l : List (ByteArray × Int)) (f : ByteArray) (n : Int) (g : ByteArray), lookF (putF l f n) g = if g = f then n else lookF l g
  | [], f, n, g => by
    unfold putF lookF lookF
    by_cases h : f = g
    · rw [if_pos h, if_pos h.symm]
    · rw [if_neg h, if_neg fun e => h e.symm]
  | x :: l, f, n, g => by
    unfold putF
    by_cases hx : x.1 = f
    · rw [if_pos hx]
      unfold lookF
      by_cases h : f = g
      · rw [if_pos h, if_pos h.symm]
      · rw [if_neg h, if_neg fun e => h e.symm, if_neg (by rw [hx]; exact h)]
    · rw [if_neg hx]
      unfold lookF
      rw [lookF_put l f n g]
      by_cases h : x.1 = g
      · rw [if_pos h, if_pos h, if_neg (by rw [← h]; exact hx)]
      · rw [if_neg h, if_neg h]
theorem putF_fst : ∀ (l : List (ByteArray × Int)) (f : ByteArray) (n : Int), ∀ x ∈ putF l f n, x.1 = f ∨ ∃ y ∈ l, y.1 = x.1
  | [], f, n, x, hx => by simp only [putF, List.mem_singleton] at hx; rw [hx]; exact .inl rfl
  | y :: l, f, n, x, hx => by
    unfold putF at hx
    split at hx
    · rcases List.mem_cons.1 hx with rfl | hx
      · exact .inl rfl
      · exact .inr ⟨x, List.mem_cons_of_mem _ hx, rfl⟩
    · rcases List.mem_cons.1 hx with rfl | hx
      · exact .inr ⟨x, List.mem_cons_self, rfl⟩
      · rcases putF_fst l f n x hx with h | ⟨z, hz, h⟩
        · exact .inl h
        · exact .inr ⟨z, List.mem_cons_of_mem _ hz, h⟩
theorem putF_nd : ∀ {l : List (ByteArray × Int)} {f : ByteArray} {n : Int}, (l.map Prod.fst).Nodup → ((putF l f n).map Prod.fst).Nodup
  | [], f, n, h => by simp [putF]
  | y :: l, f, n, h => by
    simp only [List.map_cons, List.nodup_cons] at h
    unfold putF
    split
    · rename_i he
      simp only [List.map_cons, List.nodup_cons]
      exact ⟨by rw [← he]; exact h.1, h.2⟩
    · rename_i he
      simp only [List.map_cons, List.nodup_cons]
      refine ⟨fun hm => ?_, putF_nd h.2⟩
      obtain ⟨x, hx, hxy⟩ := List.mem_map.1 hm
      rcases putF_fst l f n x hx with h1 | ⟨z, hz, h1⟩
      · exact he (hxy.symm.trans h1)
      · exact h.1 (List.mem_map.2 ⟨z, hz, h1.trans hxy⟩)
theorem pute_cons {x : Value × Value} {ps ps' : List (Value × Value)} {k v : Value} (hx : x.1 ≠ k) (h : PutE ps k v ps') : PutE (x :: ps) k v (x :: ps') := by
  cases h with
  | old j u h => exact .old (j + 1) u (by simpa using h)
  | new h => exact .new (fun p hp => by rcases List.mem_cons.1 hp with rfl | hp; exact hx; exact h p hp)
theorem fents_put : ∀ (l : List (ByteArray × Int)) (f : ByteArray) (n : Int), PutE (fents l) (.string f) (.int .i64 n) (fents (putF l f n))
  | [], f, n => .new (fun p hp => by simp [fents] at hp)
  | x :: l, f, n => by
    unfold putF
    by_cases he : x.1 = f
    · rw [if_pos he]
      exact .old 0 (.int .i64 x.2) (by simp [fents, he])
    · rw [if_neg he]
      exact pute_cons (fun e => by cases e; exact he rfl) (fents_put l f n)
def todo (vk : List PK) (l : List (PK × Sla UInt8)) : Nat := (l.filter (fun x => decide (x.1 ∉ vk))).length
theorem todo_le {vk : List PK} {k : PK} : ∀ {l : List (PK × Sla UInt8)}, todo (k :: vk) l ≤ todo vk l
  | [] => Nat.le_refl _
  | y :: l => by
    have ih := todo_le (vk := vk) (k := k) (l := l)
    unfold todo at ih ⊢
    simp only [List.filter_cons]
    by_cases h1 : y.1 ∉ vk
    · by_cases h2 : y.1 ∉ k :: vk
      · simp only [h1, h2, decide_true, if_true, not_false_eq_true, List.length_cons]; omega
      · simp only [h1, h2, decide_true, decide_false, if_true, not_false_eq_true, List.length_cons, Bool.false_eq_true, if_false]; omega
    · have h2 : ¬ y.1 ∉ k :: vk := fun h => h1 fun h3 => h (List.mem_cons_of_mem _ h3)
      simp only [h1, h2, decide_false, Bool.false_eq_true, if_false]; omega
theorem todo_visit {vk : List PK} : ∀ {l : List (PK × Sla UInt8)} {x : PK × Sla UInt8}, x ∈ l → x.1 ∉ vk → todo (x.1 :: vk) l < todo vk l
  | [], x, h, _ => by cases h
  | y :: l, x, h, hv => by
    have hle := todo_le (vk := vk) (k := x.1) (l := l)
    unfold todo at hle ⊢
    simp only [List.filter_cons]
    by_cases h1 : y.1 = x.1
    · have h2 : ¬ y.1 ∉ x.1 :: vk := fun h => h (by rw [h1]; exact List.mem_cons_self)
      have h3 : y.1 ∉ vk := by rw [h1]; exact hv
      simp only [h2, h3, decide_true, decide_false, if_true, not_false_eq_true, List.length_cons, Bool.false_eq_true, if_false]; omega
    · have hx : x ∈ l := by rcases List.mem_cons.1 h with rfl | h; exact absurd rfl h1; exact h
      have ih := todo_visit hx hv
      unfold todo at ih
      by_cases h3 : y.1 ∉ vk
      · have h2 : y.1 ∉ x.1 :: vk := fun h => by rcases List.mem_cons.1 h with h | h; exact h1 h; exact h3 h
        simp only [h2, h3, decide_true, if_true, not_false_eq_true, List.length_cons]; omega
      · have h2 : ¬ y.1 ∉ x.1 :: vk := fun h => h3 fun h4 => h (List.mem_cons_of_mem _ h4)
        simp only [h2, h3, decide_false, Bool.false_eq_true, if_false]; omega
theorem todo_erase {vk : List PK} {l : List (PK × Sla UInt8)} {j : Nat} : todo vk (l.eraseIdx j) ≤ todo vk l := ((List.eraseIdx_sublist l j).filter _).length_le
theorem rows_erase {w0 w : World} {e : TypeId} : ∀ {l : List (Sla UInt8)} {j : Nat} {A : List HProp}, Own w0 (rows e l :: A) w → Own w0 (rows e (l.eraseIdx j) :: A) w
  | [], j, A, H => H
  | y :: l, 0, A, H => H.star.tail
  | y :: l, j + 1, A, H => by
    have h1 := H.star.pk1
    exact (rows_erase (l := l) (j := j) h1).pk1.intro_star
theorem pents_erase {l : List (PK × Sla UInt8)} {j : Nat} : (pents l).eraseIdx j = pents (l.eraseIdx j) := (erase_map _ l j).symm
theorem mem_erase {α : Type} : ∀ {l : List α} {j : Nat} {x y : α}, l[j]? = some x → y ∈ l → y ≠ x → y ∈ l.eraseIdx j
  | [], _, _, _, _, h, _ => by cases h
  | z :: l, 0, x, y, hj, h, hne => by
    simp at hj; subst hj
    rcases List.mem_cons.1 h with rfl | h
    · exact absurd rfl hne
    · exact h
  | z :: l, j + 1, x, y, hj, h, hne => by
    rcases List.mem_cons.1 h with rfl | h
    · exact List.mem_cons_self
    · exact List.mem_cons_of_mem _ (mem_erase (by simpa using hj) h hne)
theorem erase_ne : ∀ {l : List (PK × Sla UInt8)} {j : Nat} {x y : PK × Sla UInt8}, (l.map Prod.fst).Nodup → l[j]? = some x → y ∈ l.eraseIdx j → y.1 ≠ x.1
  | [], _, _, _, _, h, _ => by simp at h
  | z :: l, 0, x, y, hn, hj, h => by
    simp at hj; subst hj
    simp only [List.map_cons, List.nodup_cons] at hn
    exact fun e => hn.1 (List.mem_map.2 ⟨y, h, e⟩)
  | z :: l, j + 1, x, y, hn, hj, h => by
    simp only [List.map_cons, List.nodup_cons] at hn
    rcases List.mem_cons.1 h with rfl | h
    · exact fun e => hn.1 (List.mem_map.2 ⟨x, List.mem_of_getElem? (by simpa using hj), e.symm⟩)
    · exact erase_ne hn.2 (by simpa using hj) h
/-- what is still there while numbers go -/
structure DI where
  l : List (PK × Sla UInt8)
  vk : List PK
  last : Option Value
def gone (f : ByteArray) (n : Int) (k : PK) : Prop := k.flow = f ∧ k.num < n
instance (f : ByteArray) (n : Int) (k : PK) : Decidable (gone f n k) := inferInstanceAs (Decidable (_ ∧ _))
structure DR (l0 : List (PK × Sla UInt8)) (f : ByteArray) (n : Int) (i : DI) : Prop where
  sub : i.l.Sublist l0
  all : ∀ x ∈ l0, x ∈ i.l ∨ gone f n x.1
  vis : ∀ x ∈ i.l, x.1 ∈ i.vk → ¬ gone f n x.1
theorem lookP_none {l : List (PK × Sla UInt8)} {k : PK} (h : ∀ x ∈ l, x.1 ≠ k) : lookP l k = none := by
  induction l with
  | nil => rfl
  | cons y l ih => unfold lookP; rw [if_neg (h y List.mem_cons_self), ih fun x hx => h x (List.mem_cons_of_mem _ hx)]
theorem DR.look {l0 l : List (PK × Sla UInt8)} {vk : List PK} {f : ByteArray} {n : Int} {last : Option Value} (h : DR l0 f n ⟨l, vk, last⟩) (hn : (l0.map Prod.fst).Nodup) (hall : ∀ x ∈ l, x.1 ∈ vk) (k : PK) : lookP l k = if gone f n k then none else lookP l0 k := by
  have hnl : (l.map Prod.fst).Nodup := (h.sub.map _).nodup hn
  split
  · rename_i hg
    exact lookP_none fun x hx e => h.vis x hx (hall x hx) (by rw [e]; exact hg)
  · rename_i hg
    cases hk : lookP l0 k with
    | none =>
      refine lookP_none fun x hx e => ?_
      have := lookP_mem hn (h.sub.subset hx)
      rw [e, hk] at this
      cases this
    | some b =>
      obtain ⟨j, x, hj, rfl, rfl⟩ := lookP_some hk
      rcases h.all x (List.mem_of_getElem? hj) with hx | hx
      · exact lookP_mem hnl hx
      · exact absurd hx hg
theorem v_drop {w0 : World} {A : List HProp} {v j : Nat} {down : Bool} {d : VD} {f : ByteArray} {n : Int} : Fun Tryd.prog w0 28 [.pointer (some ⟨v, 0, none⟩), .string f, .int .i64 n] (pv v j down d :: A) (Ret w0 (fun _ : Unit => True) (fun _ => .tuple #[]) (fun _ => pv v j down (dropD d f n) :: A)) := by
  refine Fun.ex (fun w h => pv_open h) ?_
  rintro ⟨mp, mf, l0, fl⟩ hi
  dsimp only [vcl]
  refine Fun.enter Tryd.func28 rfl Tryd.ntmps28 rfl ?_
  refine WC.seq <| WC.seq <| WC.region <| sv (vmP rfl) <| sv (vnil rfl) <| sv (vfldpz fl56f0 rfl) <| sv (vldc pl53 rfl) <| pm (fun _ h => Sb.own (by repeat' (first | with_reducible exact Sb.all | exact Sb.nil | (apply Sb.cons; focus (first | ((repeat (first | with_reducible exact Tk.here | with_reducible apply Tk.there)); done) | ((repeat (first | exact Tk.here | apply Tk.there)); done))) | apply Sb.drop)) h) <| rgmK Tryd.underlying53 rfl fun it2 =>?_
  refine WL.nil <| WX.thenN <| WC.block <| ?_
  refine WC.loop (ι := DI) (fun i => []) [(0, .pointer _), (1, .string _), (2, .int _ _), (11, _)] (fun i => mrk KP mp (pents i.l) it2 (i.vk.map pkv) i.last :: cel v [.map (some mp), .map (some mf), .pointer (some ⟨j, 0, none⟩), .bool down] 56 :: Sl.mp .string mf (fents fl) :: rows 5 (i.l.map Prod.snd) :: A) (fun i => DR l0 f n i) (fun i => todo i.vk i.l) (⟨l0, [], none⟩) (⟨List.Sublist.refl _, fun x hx => .inl hx, fun x _ h => by cases h⟩) trivial ⟨rfl, rfl, rfl, rfl, trivial⟩ (fun _ h => Sb.own (by repeat' (first | with_reducible exact Sb.all | exact Sb.nil | (apply Sb.cons; focus (first | ((repeat (first | with_reducible exact Tk.here | with_reducible apply Tk.there)); done) | ((repeat (first | exact Tk.here | apply Tk.there)); done))) | apply Sb.drop)) h) ?_
  rintro ⟨l, vk, last⟩ hdr ρh
  dsimp only
  refine WC.seq <| WC.region <| nxmK rfl (fun k3 v3 hk3 hv3 => ?_) (fun hall3 => ?_)
  ·
    obtain ⟨x, hx, he⟩ := List.mem_map.1 hk3
    cases he
    have hxv : x.1 ∉ vk := fun h => hv3 (List.mem_map.2 ⟨x.1, h, rfl⟩)
    have hxl0 := hdr.sub.subset hx
    refine sv (vex rfl rfl) <| WL.nil <| WX.thenN <| WC.seq <| ?_
    refine WC.tt rfl ?_
    refine WC.skip <| WX.thenN <| WC.block <| WC.seq <| WC.region <| sv (venK rfl hk3) <| sv (vex rfl rfl) <| alz (cs := [.string ByteArray.empty, .int .i64 0, .int .i64 0, .int .i64 0]) zt62 (by rfl) fun b5 => stAp sz62 rfl rfl rfl (by intro v hv; simp only [List.mem_cons, List.not_mem_nil, or_false] at hv; rcases hv with rfl | rfl | rfl | rfl <;> rfl) rfl <| WL.nil <| WX.thenN <| ?_
    refine WC.cutS [(25, .bool (decide (gone f n x.1)))] [(0, .pointer _), (1, .string _), (2, .int _ _), (6, _), (11, _)] ⟨rfl, rfl, rfl, rfl, rfl, trivial⟩ ?_ fun ρh => ?_
    · -- vault.go:66
      refine WC.region <| sv (vfldpz fl62f0 rfl) <| sv (vldc pl9 rfl) <| sv (vmT rfl) <| svs (veqs rfl rfl) (fun q1 => ?_) (fun q1 => ?_)
      ·
        exact sv (vmB rfl) <| svg rfl (vfldp fl62f1 rfl) <| svg rfl (vldc pl3 rfl) <| svg rfl (vmI rfl) <| svg rfl (vlt rfl rfl) <| sv (vpkt rfl) <| WL.nil <| WX.mid () trivial ⟨bI ⟨fun h => ⟨q1, h⟩, fun h => h.2⟩, trivial⟩ ⟨rfl, rfl, rfl, rfl, rfl, trivial⟩ (fun _ h => Sb.own (by repeat' (first | with_reducible exact Sb.all | exact Sb.nil | (apply Sb.cons; focus (first | ((repeat (first | with_reducible exact Tk.here | with_reducible apply Tk.there)); done) | ((repeat (first | exact Tk.here | apply Tk.there)); done))) | apply Sb.drop)) h)
      ·
        exact sv (vmB rfl) <| sng rfl <| sng rfl <| sng rfl <| sng rfl <| sv (vpkf rfl) <| WL.nil <| WX.mid () trivial ⟨bF (fun h => q1 h.1), trivial⟩ ⟨rfl, rfl, rfl, rfl, rfl, trivial⟩ (fun _ h => Sb.own (by repeat' (first | with_reducible exact Sb.all | exact Sb.nil | (apply Sb.cons; focus (first | ((repeat (first | with_reducible exact Tk.here | with_reducible apply Tk.there)); done) | ((repeat (first | exact Tk.here | apply Tk.there)); done))) | apply Sb.drop)) h)
    refine WC.ite rfl (fun h2 => ?_) (fun h2 => ?_)
    · -- then
      obtain ⟨jj, hjj⟩ := List.mem_iff_getElem?.1 hx
      refine WC.plan (.bar [0, 1, 2, 3, 4] 5 (.done [])) rfl (by kernel_rfl) <| WPl.barC <| dv (fun g => (vmP rfl)) <| dv (fun g => (vnil rfl)) <| dv (fun g => (vfldpz fl56f0 rfl)) <| dv (fun g => (vldc pl53 rfl)) <| dv (fun g => (vldac ag62 sz62 rfl rfl (by decide))) <| WD.eff rfl <| pm (fun _ h => (show Own w0 (mrk KP mp (pents l) it2 (pkv x.1 :: vk.map pkv) (some (pkv x.1)) :: _) _ from Own.sp1 (by repeat' (first | exact Spl.nil | (apply Spl.cons; focus (first | ((repeat (first | with_reducible exact Tk.here | with_reducible apply Tk.there)); done) | ((repeat (first | exact Tk.here | apply Tk.there)); done))))) h)) <| delK (j := jj) (k := pkv x.1) Tryd.underlying53 place_law rfl rfl (kp_ok (hi.ok x hxl0).1) (pents_at hjj) ?_
      skip
      exact WL.nil <| WX.brT <| WPl.finC <| WD.nil <| WX.blockN <| WX.again (⟨l.eraseIdx jj, x.1 :: vk, none⟩) (⟨(List.eraseIdx_sublist l jj).trans hdr.sub, fun y hy => by rcases hdr.all y hy with h | h; by_cases hyx : y.1 = x.1; exact .inr (by rw [hyx]; exact h2); exact .inl (mem_erase hjj h (fun e => hyx (by rw [e]))); exact .inr h, fun y hy hv => by have hyl := (List.eraseIdx_sublist l jj).subset hy; rcases List.mem_cons.1 hv with hv | hv; exact absurd hv (erase_ne ((hdr.sub.map _).nodup hi.nd) hjj hy); exact hdr.vis y hyl hv⟩) (Nat.lt_of_le_of_lt todo_erase (todo_visit hx hxv)) trivial ⟨rfl, rfl, rfl, rfl, trivial⟩ (fun w h => by have h2 := rows_erase (j := jj) (Own.sp1 (X1 := rows 5 (l.map Prod.snd)) (by repeat' (first | exact Spl.nil | (apply Spl.cons; focus (first | ((repeat (first | with_reducible exact Tk.here | with_reducible apply Tk.there)); done) | ((repeat (first | exact Tk.here | apply Tk.there)); done))))) h); rw [pents_erase, ← erase_map] at h2; exact Sb.own (by repeat' (first | with_reducible exact Sb.all | exact Sb.nil | (apply Sb.cons; focus (first | ((repeat (first | with_reducible exact Tk.here | with_reducible apply Tk.there)); done) | ((repeat (first | exact Tk.here | apply Tk.there)); done))) | apply Sb.drop)) h2)
    · -- else
      exact WC.skip <| WX.blockN <| WX.again (⟨l, x.1 :: vk, some (pkv x.1)⟩) (⟨hdr.sub, hdr.all, fun y hy hv => by rcases List.mem_cons.1 hv with hv | hv; rw [hv]; exact h2; exact hdr.vis y hy hv⟩) (todo_visit hx hxv) trivial ⟨rfl, rfl, rfl, rfl, trivial⟩ (fun _ h => Sb.own (by repeat' (first | with_reducible exact Sb.all | exact Sb.nil | (apply Sb.cons; focus (first | ((repeat (first | with_reducible exact Tk.here | with_reducible apply Tk.there)); done) | ((repeat (first | exact Tk.here | apply Tk.there)); done))) | apply Sb.drop)) h)
  ·
    have hall : ∀ x ∈ l, x.1 ∈ vk := fun x hx => by
      obtain ⟨k, hk, e⟩ := List.mem_map.1 (hall3 _ (List.mem_map.2 ⟨x, hx, rfl⟩))
      rw [← pkv_inj e]; exact hk
    refine sv (vex rfl rfl) <| WL.nil <| WX.thenN <| WC.seq <| ?_
    refine WC.ff rfl ?_
    refine WC.exit <| WX.thenE <| WX.thenE <| WX.blockH <| WX.thenN <| WC.region <| sv (vmP rfl) <| sv (vnil rfl) <| sv (vfldp fl56f1 rfl) <| sv (vldc pl54 rfl) <| sv (vmT rfl) <| sv (vmI rfl) <| mpup (k := .string _) (v := .int _ _) Tryd.underlying54 Tryd.underlying9 rfl rfl rfl trivial (fents_put fl f n) ?_
    exact WL.nil <| WX.end0 rfl (()) (trivial) rfl (fun w h => by have h2 := (Own.sp1 (X1 := mrk KP mp (pents l) it2 (vk.map pkv) last) (by repeat' (first | exact Spl.nil | (apply Spl.cons; focus (first | ((repeat (first | with_reducible exact Tk.here | with_reducible apply Tk.there)); done) | ((repeat (first | exact Tk.here | apply Tk.there)); done))))) h).mrk_mpk; have h3 := pv_mk (v := v) (j := j) (down := down) (d := dropD d f n) (i := ⟨mp, mf, l, putF fl f n⟩) ⟨(hdr.sub.map _).nodup hi.nd, fun k => by rw [hdr.look hi.nd hall k, hi.look]; rfl, fun x hx => hi.ok x (hdr.sub.subset hx), putF_nd hi.ndf, fun g => by rw [lookF_put, hi.floor]; rfl⟩ (Own.sp4 (by repeat' (first | exact Spl.nil | (apply Spl.cons; focus (first | ((repeat (first | with_reducible exact Tk.here | with_reducible apply Tk.there)); done) | ((repeat (first | exact Tk.here | apply Tk.there)); done))))) h2); exact Sb.own (by repeat' (first | with_reducible exact Sb.all | exact Sb.nil | (apply Sb.cons; focus (first | ((repeat (first | with_reducible exact Tk.here | with_reducible apply Tk.there)); done) | ((repeat (first | exact Tk.here | apply Tk.there)); done))) | apply Sb.drop)) h3)
end Go.Proofs.YthljpljbpbkkcaaDoor
