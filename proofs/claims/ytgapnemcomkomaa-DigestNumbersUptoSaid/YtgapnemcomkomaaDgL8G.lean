/- Part of the proofs of the statements of this seat. -/
import Derived.Test.YtgapnemcomkomaaDgL4G
import Derived.Test.YtgapnemcomkomaaDgR4G
/- Digest: the statement on numbers. -/
set_option linter.unusedVariables false
set_option linter.unusedSimpArgs false
namespace Go.Fr.Try
open Go Go.RowKit Go.Proofs Go.Fr Go.Fr.T Go.Fr.Api
theorem flat_split {α : Type} (enc : α → List UInt8) {l : List α} {i : Nat} {x : α} (h : l[i]? = some x) : l.flatMap enc = (l.take i).flatMap enc ++ (enc x ++ (l.drop (i + 1)).flatMap enc) := by
  have e : l = l.take i ++ x :: l.drop (i + 1) := by
    obtain ⟨hi, rfl⟩ := List.getElem?_eq_some_iff.1 h
    rw [← List.drop_eq_getElem_cons hi, List.take_append_drop]
  calc l.flatMap enc = (l.take i ++ x :: l.drop (i + 1)).flatMap enc := by rw [← e]
    _ = _ := by rw [List.flatMap_append, List.flatMap_cons]
theorem flat_set {α : Type} (enc : α → List UInt8) {l : List α} {i : Nat} {x y : α} (h : l[i]? = some x) : (l.set i y).flatMap enc = (l.take i).flatMap enc ++ (enc y ++ (l.drop (i + 1)).flatMap enc) := by
  have hi := (List.getElem?_eq_some_iff.1 h).1
  rw [List.set_eq_take_append_cons_drop, if_pos hi, List.flatMap_append, List.flatMap_cons]
theorem encIns_n (n : Int) (x : Ins) : encIns none (numI n x) = encIs [x.op, x.dst, x.a, x.b] ++ encI n ++ (encL encI x.args ++ encL (encTy none) x.types) := by
  simp [encIns, numI, encIs]
theorem encIns_0 (x : Ins) : encIns none x = encIs [x.op, x.dst, x.a, x.b] ++ encI x.n ++ (encL encI x.args ++ encL (encTy none) x.types) := by
  simp [encIns, encIs]
theorem encFun_n (f : Fun) {i k : Nat} {b : Block} {x : Ins} (hb : f.blocks[i]? = some b) (hx : b.code[k]? = some x) : ∃ p q, encFun none f = p ++ encI x.n ++ q ∧ ∀ n, encFun none (numF f i k n) = p ++ encI n ++ q := by
  have key : ∃ p q, encBlock none b = p ++ encI x.n ++ q ∧ ∀ n, encBlock none (numB k n b) = p ++ encI n ++ q := by
    refine ⟨encI b.code.length ++ (b.code.take k).flatMap (encIns none) ++ encIs [x.op, x.dst, x.a, x.b], encL encI x.args ++ encL (encTy none) x.types ++ (b.code.drop (k + 1)).flatMap (encIns none) ++ (encIs [b.fin.kind, b.fin.a] ++ encL encI b.fin.targets), ?_, fun n => ?_⟩
    · have this := flat_split (encIns none) hx
      simp only [encBlock, encL, this, encIns_0, List.append_assoc]
    · have hm : (numB k n b).code = b.code.set k (numI n x) := modify_eq hx
      have this := flat_set (encIns none) (y := numI n x) hx
      show encL (encIns none) (numB k n b).code ++ (encIs [b.fin.kind, b.fin.a] ++ encL encI b.fin.targets) = _
      simp only [hm, encL, this, encIns_n, List.append_assoc, List.length_set]
  obtain ⟨p, q, h1, h2⟩ := key
  refine ⟨encSig none f ++ (encL (encTy none) f.locals ++ (encI f.blocks.length ++ (f.blocks.take i).flatMap (encBlock none) ++ p)), q ++ (f.blocks.drop (i + 1)).flatMap (encBlock none), ?_, fun n => ?_⟩
  · have this := flat_split (encBlock none) hb
    simp only [encFun, encL, this, h1, List.append_assoc]
  · have hm : (numF f i k n).blocks = f.blocks.set i (numB k n b) := modify_eq hb
    have this := flat_set (encBlock none) (y := numB k n b) hb
    show encSig none f ++ (encL (encTy none) f.locals ++ encL (encBlock none) (numF f i k n).blocks) = _
    simp only [hm, encL, this, h2, List.append_assoc, List.length_set]
theorem encI_small {a : Nat} (h : a < 64) : encI a = [UInt8.ofNat (2 * a)] := by
  have : zig a = 2 * a := by unfold zig; rw [if_neg (by omega)]; omega
  rw [encI, this, encN, dif_pos (by omega)]
theorem fold_num {p q : List UInt8} {a c : Nat} (ha : a < 64) (hc : c < 64) : foldN (bytesN (p ++ encI a ++ q)) = foldN (bytesN (p ++ encI c ++ q)) ↔ a = c := by
  rw [encI_small ha, encI_small hc, fold_run, fold_run]
  have e : ∀ m, m < 64 → ((UInt8.ofNat (2 * m)).toNat : Int) = 2 * m := fun m hm => by rw [UInt8.toNat_ofNat']; omega
  have := Pure.run_set (a := bytesN p) (b := bytesN q) (x := ((UInt8.ofNat (2 * c)).toNat : Int)) (v := ((UInt8.ofNat (2 * a)).toNat : Int)) (by omega) (by rw [e c hc]; omega) (by omega) (by rw [e a ha]; omega)
  simp only [bytesN, List.map_append, List.map_cons, List.map_nil, List.append_assoc, List.singleton_append, List.cons_append, List.nil_append] at this ⊢
  rw [this, e a ha, e c hc]
  omega
theorem sig_num (f : Fun) (i k : Nat) (n : Int) : encSig none (numF f i k n) = encSig none f := rfl
set_option maxRecDepth 10000 in
theorem t8 (f : Fun) (p q u v : UInt8) (hbk : f.g.bulk ≤ 1048576) : CallsT P 8 [.agg (funC f), bcell p, bcell q, bcell u, bcell v] [] (Ret [] (.bool true)) := by
  have h11 := t11 f
  have hp := p.toNat_lt
  have hq := q.toNat_lt
  have hu := u.toNat_lt
  have hv := v.toNat_lt
  have hn : f.name.size ≤ 1048576 := by
    have : f.name.size + 1 ≤ f.g.bulk := by simp only [Fun.g, G.bulk, G.bulkAll]; omega
    omega
  have hfl := encFun_le (po := none) trivial f
  obtain ⟨i, hi⟩ : ∃ i, i = p.toNat % (f.blocks.map blockC).length := ⟨_, rfl⟩
  obtain ⟨b, hb⟩ : ∃ b : Block, (f.blocks.map blockC).length ≠ 0 → f.blocks[i]? = some b := by
    by_cases h : (f.blocks.map blockC).length = 0
    · exact ⟨⟨[], ⟨0, 0, []⟩⟩, fun h' => absurd h h'⟩
    · have : i < f.blocks.length := by rw [hi]; have := Nat.mod_lt p.toNat (Nat.pos_of_ne_zero h); rwa [List.length_map] at this ⊢
      exact ⟨f.blocks[i], fun _ => List.getElem?_eq_getElem this⟩
  obtain ⟨k, hk⟩ : ∃ k, k = q.toNat % (b.code.map insC).length := ⟨_, rfl⟩
  obtain ⟨x, hx⟩ : ∃ x : Ins, (b.code.map insC).length ≠ 0 → b.code[k]? = some x := by
    by_cases h : (b.code.map insC).length = 0
    · exact ⟨⟨0, 0, 0, 0, 0, [], []⟩, fun h' => absurd h h'⟩
    · have : k < b.code.length := by rw [hk]; have := Nat.mod_lt q.toNat (Nat.pos_of_ne_zero h); rwa [List.length_map] at this ⊢
      exact ⟨b.code[k], fun _ => List.getElem?_eq_getElem this⟩
  subst hi hk
  have h0b : f.blocks.length ≤ 2 ^ 30 := by
    have h1 := bulk_map (f := Block.g) f.blocks
    have : G.bulkAll (f.blocks.map Block.g) ≤ f.g.bulk := by simp only [Fun.g, G.bulk, G.bulkAll]; omega
    omega
  have h0c : ∀ b ∈ f.blocks, b.code.length ≤ 2 ^ 30 := by
    intro b hb
    have h1 := bulk_map (f := Ins.g) b.code
    have h2 := bulk_mem (g := Block.g) hb
    have : G.bulkAll (f.blocks.map Block.g) ≤ f.g.bulk := by simp only [Fun.g, G.bulk, G.bulkAll]; omega
    have : G.bulkAll (b.code.map Ins.g) ≤ (Block.g b).bulk := by simp only [Block.g, G.bulk, G.bulkAll]; omega
    omega
  obtain ⟨S, W, B, hW, h13, h29⟩ : ∃ (S : Int) (W : Nat → Int) (B : Nat → List Block), ((f.blocks.map blockC).length ≠ 0 → (b.code.map insC).length ≠ 0 → ∀ a c, a < 64 → c < 64 → (W a = W c ↔ a = c)) ∧
      ((f.blocks.map blockC).length ≠ 0 → (b.code.map insC).length ≠ 0 → (encFun none f).length ≤ 2 ^ 46 → ∀ n, n < 64 → CallsT Try.prog 13 [.agg (funC { f with blocks := B n })] [] (Ret [] (.tup [IC S, IC (W n)]))) ∧
      ((f.blocks.map blockC).length ≠ 0 → (b.code.map insC).length ≠ 0 → ∀ n : Nat, CallsT Try.prog 29 [.agg (funC f), IC (p.toNat % (f.blocks.map blockC).length : Nat), IC (q.toNat % (b.code.map insC).length : Nat), IC n] [] (Ret [] (.agg (funC { f with blocks := B n })))) := by
    by_cases h1 : (f.blocks.map blockC).length = 0
    · exact ⟨0, fun _ => 0, fun _ => [], fun h => absurd h1 h, fun h => absurd h1 h, fun h => absurd h1 h⟩
    by_cases h2 : (b.code.map insC).length = 0
    · exact ⟨0, fun _ => 0, fun _ => [], fun _ h => absurd h2 h, fun _ h => absurd h2 h, fun _ h => absurd h2 h⟩
    have hb := hb h1
    have hx := hx h2
    obtain ⟨p0, q0, hf0, hf1⟩ := encFun_n f hb hx
    refine ⟨foldN (bytesN (encSig none f)), fun n => foldN (bytesN (p0 ++ encI n ++ q0)), fun n => (numF f (p.toNat % (f.blocks.map blockC).length) (q.toNat % (b.code.map insC).length) n).blocks, fun _ _ a c ha hc => fold_num ha hc, fun _ _ z n hn => ?_, fun _ _ n => t29 f (p.toNat % (f.blocks.map blockC).length) (q.toNat % (b.code.map insC).length) n b x hb hx h0b (h0c b (List.mem_of_getElem? hb))⟩
    have := t13 (numF f (p.toNat % (f.blocks.map blockC).length) (q.toNat % (b.code.map insC).length) n)
    rw [sig_num, hf1] at this
    refine this ?_
    rw [hf0] at z
    have h1 := encN_len (zig x.n)
    have h2 : (encI x.n).length = (encN (zig x.n)).length := rfl
    rw [encI_small hn]
    simp only [List.length_append, List.length_singleton] at z ⊢
    omega
  clear h0b h0c
  refine callsT_facts Try.func8 facts8 rfl fun hw _ => ?_
  have z := hfl hw.1 hn
  refine callP t9 rfl fun _ => ?_
  refine callB h11 rfl fun b0 _ => ?_
  refine brn_split (fun _ => ?_) (fun _ => ?_)
  · exact retP rfl rfl
  refine brn_p (fun _ => ?_) (fun h1 => ?_)
  · exact retP rfl rfl
  have g1 : (f.blocks.map blockC).length ≠ 0 := by omega
  refine Fit.in64 (by omega) (by omega) ?_
  refine NonZ.mk (by omega) ?_
  have hb := hb g1
  refine idxT (f := blockC) (k := p.toNat % (f.blocks.map blockC).length) (x := b) (es := blockC b) hb rfl rfl ?_
  refine brn_p (fun _ => ?_) (fun h2 => ?_)
  · exact retP rfl rfl
  have g2 : (b.code.map insC).length ≠ 0 := by omega
  refine Fit.in64 (by omega) (by omega) ?_
  refine idxT (f := blockC) (k := p.toNat % (f.blocks.map blockC).length) (x := b) (es := blockC b) hb rfl rfl ?_
  refine NonZ.mk (by omega) ?_
  refine Fit.in64 (by omega) (by omega) ?_
  refine NonZ.mk (by omega) ?_
  have h29 := h29 g1 g2
  have h13 := h13 g1 g2 (by omega)
  refine callP (h29 (u.toNat % 64)) rfl fun _ => ?_
  refine callP (h13 (u.toNat % 64) (by omega)) rfl fun _ => ?_
  refine Fit.in64 (by omega) (by omega) ?_
  refine NonZ.mk (by omega) ?_
  refine callP (h29 (v.toNat % 64)) rfl fun _ => ?_
  refine callP (h13 (v.toNat % 64) (by omega)) rfl fun _ => ?_
  refine brn_p (fun _ => ?_) (fun h => (h rfl).elim)
  refine NonZ.mk (by omega) ?_
  refine NonZ.mk (by omega) ?_
  have e : decide (decide (W (u.toNat % 64) = W (v.toNat % 64)) = decide ((u.toNat : Int).tmod 64 = (v.toNat : Int).tmod 64)) = true := by
    have h1 := hW g1 g2 (u.toNat % 64) (v.toNat % 64) (by omega) (by omega)
    have h2 : ((u.toNat : Int).tmod 64 = (v.toNat : Int).tmod 64) ↔ u.toNat % 64 = v.toNat % 64 := by
      show (((u.toNat % 64 : Nat) : Int) = ((v.toNat % 64 : Nat) : Int)) ↔ _
      omega
    apply decide_eq_true
    exact decide_eq_decide.2 (h1.trans h2.symm)
  exact retP rfl (congrArg C.bool e)
end Go.Fr.Try
