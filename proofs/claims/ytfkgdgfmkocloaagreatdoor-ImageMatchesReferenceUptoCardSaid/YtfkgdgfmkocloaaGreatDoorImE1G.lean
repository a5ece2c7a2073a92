/- Part of the proofs of the statements of this seat. -/
import Derived.Test.YtfkgdgfmkocloaaGreatDoorImT8G
import Derived.Test.YtfkgdgfmkocloaaGreatDoorFW3
import Derived.Test.YtfkgdgfmkocloaaGreatDoorImP1G
import Derived.Test.YtfkgdgfmkocloaaGreatDoorImT2G
import Derived.Test.YtfkgdgfmkocloaaGreatDoorImCode
set_option maxRecDepth 10000
set_option linter.unusedVariables false
set_option linter.unusedSimpArgs false
namespace Go.Fr.Tryz
open Go Go.RowKit Go.Proofs Go.Fr Go.Fr.T Go.Fr.Api
theorem appB {bs:List UInt8} {els:List (List C)} {K:Prop} (n:Nat) (hn:els.length = n) (h:n + bs.length ≤ 140737488355328) (k:K):AppT els (bcells bs) 1 1 K :=
 ⟨bcells_sz,by rw [bcells_len,hn]; simp only [maxLen]; omega,by rw [bcells_len,hn]; omega,k⟩
theorem t60 (bs:List UInt8) (hb:bs.length ≤ 140737488355328):CallsT PZ 60 [.sl (bcells bs)] [] (Ret [.row 5 1 (bcells bs)] (.rw 1000)):=by
 refine callsT_facts Tryz.func60 facts60 rfl fun hw _ => ?_
 intro b hnil
 refine brn_split (fun h => ?_) (fun h => ?_)
 ·have:bs = []:=by
   cases bs with
   | nil => rfl
   | cons x l => have:=hnil (by simp [bcells]); rw [this] at h; cases h
  subst this
  exact retN 2 5 1 rfl rfl
 ·refine appB 0 rfl (by omega) ?_
  exact retO [5] rfl rfl rfl rfl
def by8 (n:Int):UInt8:=UInt8.ofNat n.toNat
def dig4 (bs:List UInt8):List UInt8:=[by8 (dig bs / 16777216),by8 (dig bs / 65536),by8 (dig bs / 256),by8 (dig bs)]
theorem wrap_by8 {n m:Int} (h:0 ≤ m) (e:n = m):IntKind.wrap .u8 n = ((by8 m).toNat:Int):=by
 subst e
 simp only [IntKind.wrap,IntKind.bits,IntKind.signed,by8,UInt8.toNat_ofNat']
 simp
 omega
theorem Fit.to' {k:IntKind} {n m:Int} {K:Int → Prop} (h:k.wrap n = m) (hK:K m):Fit k n K:=⟨by rw [h]; exact hK⟩
theorem t25r (bs:List UInt8) (hb:bs.length ≤ 70368744177664):CallsT PZ 25 [.sl (bcells bs)] [] (Ret [] (.sl (bcells (bs ++ dig4 bs)))):=by
 refine callsT_facts Tryz.func25 facts25 rfl fun hw _ => ?_
 obtain ⟨h0,h1⟩:=dig_bd bs
 refine callP (t17 bs) rfl fun _ => ?_
 refine callO [] [7] (t60 bs (by omega)) rfl rfl rfl rfl rfl fun _ _ => ?_
 refine ⟨by omega,?_⟩
 refine Fit.to' (wrap_by8 (m:=dig bs / 16777216) (by omega) (Int.fdiv_eq_ediv_of_nonneg (b:=16777216) _ (by omega))) ?_
 refine ⟨by omega,?_⟩
 refine Fit.to' (wrap_by8 (m:=dig bs / 65536) (by omega) (Int.fdiv_eq_ediv_of_nonneg (b:=65536) _ (by omega))) ?_
 refine ⟨by omega,?_⟩
 refine Fit.to' (wrap_by8 (m:=dig bs / 256) (by omega) (Int.fdiv_eq_ediv_of_nonneg (b:=256) _ (by omega))) ?_
 refine Fit.to' (wrap_by8 (m:=dig bs) (by omega) rfl) ?_
 refine appB (bs:=dig4 bs) bs.length bcells_len (by simp only [dig4,List.length_cons,List.length_nil]; omega) ?_
 refine retF [7] [] ⟨_,_,rfl,rfl,rfl,rfl,?_⟩
 refine congrArg C.sl (?_:bcells bs ++ bcells (dig4 bs) = _)
 simp [bcells]
theorem t19 (bs:List UInt8):CallsT PZ 19 [.sl (bcells bs)] [] (Ret [] (.sl (bcells (dig4 bs)))):=by
 refine callsT_facts Tryz.func19 facts19 rfl fun hw _ => ?_
 obtain ⟨h0,h1⟩:=dig_bd bs
 refine callP (t58 bs) rfl fun _ => ?_
 refine ⟨by omega,?_⟩
 refine Fit.to' (wrap_by8 (m:=dig bs / 16777216) (by omega) (Int.fdiv_eq_ediv_of_nonneg (b:=16777216) _ (by omega))) ?_
 refine ⟨by omega,?_⟩
 refine Fit.to' (wrap_by8 (m:=dig bs / 65536) (by omega) (Int.fdiv_eq_ediv_of_nonneg (b:=65536) _ (by omega))) ?_
 refine ⟨by omega,?_⟩
 refine Fit.to' (wrap_by8 (m:=dig bs / 256) (by omega) (Int.fdiv_eq_ediv_of_nonneg (b:=256) _ (by omega))) ?_
 refine Fit.to' (wrap_by8 (m:=dig bs) (by omega) rfl) ?_
 exact retP rfl rfl
section
variable {L:TL} {ρ:TEnv}
theorem fT_mk {L:TL} {K:TL → Prop} (h:K L):fT L K:=by rw [fT_eq]; exact h
theorem caughtE {F:Nat} {fi ca args:List C} {ks:List Nat} {Lin Lin':List TO} {R:List TO → C → Prop} {p:Prop} {K:TL → TEnv → C → Prop} (h:CallsTX PZ F (fi ++ ca) Lin' R (fun v => v = failV ∧ p)) (hs:L.sub ks = some Lin)
  (hc:(T.nodup? ks && koOk L ks ks && boxesAt Lin ks ks) = true) (ha:(args.map fun c => c.canA.ren (toIn ks 1000)) = [.fn F fi ca]) (hl:Lin.map (TO.mapC (C.ren (toIn ks 1000))) = Lin')
  (k1:∀ Mo c0,R Mo c0 → ks.length = Mo.length ∧ K (((L.dels ks).kills (rowsOf L ks)).puts ks (Mo.map (TO.mapC (C.ren (fromIn ks))))) (killsE (rowsOf L ks) ρ) (.bool true))
  (k2:p → ∀ Mo,lostL Lin' Mo → ks.length = Mo.length ∧ K (((L.dels ks).kills (rowsOf L ks)).puts ks (Mo.map (TO.mapC (C.ren (fromIn ks))))) (killsE (rowsOf L ks) ρ) (.bool false)):CallT PZ 26 args L ρ K:=by
 subst hl
 simp only [Bool.and_eq_true] at hc
 obtain ⟨⟨c1,c2⟩,c3⟩:=hc
 refine ⟨[],ks,ks,L,Lin,_,.inl rfl,hs,c1,c1,c2,c3,by rw [ha]; exact caught_T h,?_⟩
 rintro v Mo (⟨rfl,c0,hR⟩ | ⟨rfl,hp,hL⟩) _ _
 ·exact k1 Mo c0 hR
 ·exact k2 hp Mo hL
end
def img0:Img:=⟨[],[],0⟩
def sealB (b:List UInt8):List UInt8:=b ++ dig4 b
def dec (bs:List UInt8):Img × Int :=
 if bs.length < 7 then (img0,16) else if hasP bs [76,72,1] = false then (img0,16) else if sealB (bs.take (bs.length - 4)) ≠ bs then (img0,17)
 else match wholeD ((bs.take (bs.length - 4)).drop 3) with
  | some i => (i,0)
  | none => (img0,16)
def decC (x:Img × Int):C:=.tup [.agg (imgC x.1),IC x.2]
theorem t11 (bs:List UInt8) (hb:bs.length ≤ 70368744177664):CallsT PZ 11 [.sl (bcells bs)] [] (Ret [] (decC (dec bs))):=by
 refine callsT_facts Tryz.func11 facts11 rfl fun hw _ => ?_
 refine brn_p (fun h7 => ?_) (fun h7 => ?_)
 ·have h7:bs.length < 7:=by rw [bcells_len] at h7; omega
  refine retP rfl ?_
  rw [dec,if_pos h7]; rfl
 have h7:¬ bs.length < 7:=by rw [bcells_len] at h7; omega
 refine callP t23 rfl fun _ => ?_
 refine callP (t22 bs [76,72,1]) rfl fun _ => ?_
 refine brn_split (fun hp => ?_) (fun hp => ?_)
 ·have hp:hasP bs [76,72,1] = false:=by simpa using hp
  refine retP rfl ?_
  rw [dec,if_neg h7,if_pos hp]; rfl
 have hp:hasP bs [76,72,1] = true:=by simpa using hp
 refine Fit.in64 (by rw [bcells_len]; omega) (by rw [bcells_len]; omega) ?_
 have e1:((bcells bs).drop 0).take ((((bcells bs).length:Int) - 4).toNat - 0) = bcells (bs.take (bs.length - 4)):=by
  rw [bcells_slice,bcells_len]
  simp only [List.drop_zero]
  congr 2
  omega
 refine SlcT.mk (Int.le_refl 0) (by rw [bcells_len]; omega) (by rw [bcells_len]; omega) bcells_sz ?_
 refine callP (t25r (bs.take (bs.length - 4)) (by rw [List.length_take]; omega)) (congrArg (fun q => [C.sl q]) e1) fun _ => ?_
 refine callP (t24 _ bs) rfl fun _ => ?_
 refine brn_split (fun he => ?_) (fun he => ?_)
 ·have he:¬ sealB (bs.take (bs.length - 4)) = bs:=by simpa [sealB] using he
  refine retP rfl ?_
  rw [dec,if_neg h7,if_neg (by rw [hp]; exact Bool.noConfusion),if_pos he]; rfl
 have he:sealB (bs.take (bs.length - 4)) = bs:=by simpa [sealB] using he
 have e2:((((bcells bs).drop 0).take ((((bcells bs).length:Int) - 4).toNat - 0)).drop 3).take (((((bcells bs).drop 0).take ((((bcells bs).length:Int) - 4).toNat - 0)).length:Int).toNat - 3) = bcells ((bs.take (bs.length - 4)).drop 3):=by
  rw [e1,bcells_slice,bcells_len,List.take_of_length_le (by simp)]
 have e3:(3:Int) ≤ ((((bcells bs).drop 0).take ((((bcells bs).length:Int) - 4).toNat - 0)).length:Int):=by rw [e1,bcells_len,List.length_take]; omega
 have e4:∀ es ∈ ((bcells bs).drop 0).take ((((bcells bs).length:Int) - 4).toNat - 0),es.length = 1:=by rw [e1]; exact bcells_sz
 refine SlcT.mk (by omega) e3 (Int.le_refl _) e4 ?_
 refine caughtE (t27 ((bs.take (bs.length - 4)).drop 3)) (ks:=[31,5,6]) rfl rfl rfl (congrArg (fun q => [TO.box 61 [C.sl q],.box 59 [.own 1000 0],.box 25 [.nils,.nils,IC 0]]) e2) ?_ ?_
 ·rintro Mo c0 ⟨i,hi,rfl,_⟩
  refine ⟨rfl,?_⟩
  refine retP rfl ?_
  rw [dec,if_neg h7,if_neg (by rw [hp]; exact Bool.noConfusion),if_neg (fun q => q he),hi]; rfl
 ·rintro hn Mo hl
  obtain ⟨n1,_,rfl,n2,_,rfl,n3,_,rfl,rfl⟩:=hl
  refine ⟨rfl,?_⟩
  refine fT_mk ?_
  refine retP rfl ?_
  rw [dec,if_neg h7,if_neg (by rw [hp]; exact Bool.noConfusion),if_neg (fun q => q he),hn]; rfl
theorem CallsA.addNil {P:Program} {f:FuncId} {args:Array Value} {F:Frz} {b:Own} {t sz:Nat} {R:Frz → List Own → Value → Prop} (h:CallsA P f args F [b,.row (.slice none 0 0) t sz 0 []] R):CallsA P f args F [b] R:=by
 have hg:Loc.gives (inp [b]) (inp [b,.row (.slice none 0 0) t sz 0 []]):=⟨.inl rfl,.inr ⟨rfl,_,_,rfl⟩,trivial⟩
 refine ⟨h.ent,h.mono,fun w hs => (h.run w (hs.gives hg)).mono ?_⟩
 rintro e w' ⟨v,F',Lo,h1,h2,h3,h4⟩
 exact ⟨v,F',Lo,h1,h2,(gives_step hg).trans h3,h4⟩
theorem t38n (t:Nat) (ys:List UInt8) (hm:ys.length ≤ 70368744177664) (hp:0 < ys.length) :
  CallsT PZ 38 [.own 1000 0,.sl (bcells ys)] [.box t [.nils,IC 0,.int .i8 0]] (Ret (WB t ys) (.tup [IC ys.length,.opq 0])):=by
 refine ⟨fun F Li vs h1 h2 h3 => ?_⟩
 match Li,h1 with
 | [o1],_ =>
  have hb:RelO F (inp [o1]) (.box t [.nils,IC 0,.int .i8 0]) o1:=h2 1000
  cases o1 with
  | row => exact hb.elim
  | box gb tb us =>
   obtain ⟨ht,hu⟩:=hb
   simp only [Rels,Rel] at hu
   obtain ⟨v1,_,rfl,rfl,v2,_,rfl,⟨rfl,_⟩,v3,_,rfl,⟨rfl,_⟩,rfl⟩:=hu
   simp only [Rels] at h3
   obtain ⟨v1,_,rfl,h1,v2,_,rfl,h2,rfl⟩:=h3
   obtain ⟨a,cp,rfl,_,_,hF⟩:=sl_bytes h2
   have e1:v1 = .pointer (some ⟨gb,0,none⟩):=by
    simp only [Rel] at h1
    obtain ⟨g,t,cs,e,rfl⟩:=h1
    have e':some (Own.box gb tb [.slice none 0 0,.int .i64 0,.int .i8 0]) = some (.box g t cs):=e
    injection e' with e'
    injection e' with e1
    rw [e1]
   subst e1
   have h0:CallsA PZ 38 #[.pointer (some ⟨gb,0,none⟩),.slice a ys.length cp] F (BO gb tb (.slice none 0 0) 0 0 []) (RW gb tb 0 ys.length ([] ++ bvals ys) (.tuple #[.int .i64 ys.length,.nilIface])) :=
    t38A F gb tb (.slice none 0 0) 0 0 0 ys.length cp a [] (bvals ys) (.inl ⟨rfl,rfl,rfl⟩) (by omega) (by omega) rfl (by simp) (bvals_len ys) hF (bvals_ones ys)
   refine CallsA.to (CallsA.addNil h0) ResA.mono' ?_
   rintro F' Lo v ⟨s',c',hs',rfl,rfl⟩
   rw [Nat.zero_add] at hs' ⊢
   refine ⟨WB t ys,_,rfl,wb_to ht hs' (by simp only [maxLen]; omega),?_,fun i g t0 cs e => ?_,rfl,rfl⟩
   ·simp only [Rel,Rels]
    exact ⟨[_,_],rfl,_,_,rfl,⟨rfl,by simp [Lit.wf,IntKind.min,IntKind.max,IntKind.signed,IntKind.bits]; omega⟩,_,_,rfl,opq_nil,rfl⟩
   ·match i with
    | 0 =>
     injection e with e
     injection e with e1 e2 e3
     subst e1 e2
     exact ⟨_,rfl⟩
    | i + 1 => cases e
theorem t45T (t:Nat) (bs:List UInt8) (lr:Int):CallsT PZ 45 [.own 1000 0] [.box t [.sl (bcells bs),IC 0,.int .i8 lr]] (Ret [.box t [.sl (bcells bs),IC 0,.int .i8 lr]] (.sl (bcells bs))):=by
 refine callsT_facts Tryz.func45 facts45 rfl fun hw ho => ?_
 refine SlcT.mk (by omega) (by omega) (by omega) bcells_sz ?_
 refine retO [1000] rfl rfl rfl (congrArg C.sl (?_:((bcells bs).drop 0).take (((bcells bs).length:Int).toNat - 0) = bcells bs))
 rw [bcells_slice,bcells_len,List.take_of_length_le (by simp)]; rfl
theorem WrOk.own {f:Nat} {args:List C} {bs:List UInt8} {e:Enc} (h:∀ g,WrB f (args.map (C.toAdr g)) (T.pin g 79) bs e) (hb:bs.length + e.1.length ≤ 70368744177664) (h0:0 < bs.length):WrOk f args 79 bs e:=by
 refine CallsTX.unpinned (by omega) fun g => (h g hb h0).imp ?_ fun _ h => h
 rintro Mo c ⟨h1,rfl,h2⟩
 exact ⟨h1,rfl,h2⟩
theorem t40o (bs:List UInt8) (l:List Api.Data) (hb:bs.length + (listE dataE l).1.length ≤ 70368744177664) (h0:0 < bs.length):WrOk 40 [.own 1000 0,.sl (l.map dataC),.fn 41 [.own 1000 0] []] 79 bs (listE dataE l):=WrOk.own (fun g => t40 g _ (t41 g) bs l) hb h0
theorem t42o (bs:List UInt8) (l:List Rout) (hb:bs.length + (listE routE l).1.length ≤ 70368744177664) (h0:0 < bs.length):WrOk 42 [.own 1000 0,.sl (l.map routC),.fn 43 [.own 1000 0] []] 79 bs (listE routE l):=WrOk.own (fun g => t42 g _ (t43 g) bs l) hb h0
def WBo (bs:List UInt8):List TO:=WB 79 bs ++ [.box 73 [.own 1000 0]]
theorem t39 (i:Img) (bs:List UInt8) (hb:bs.length + (imgE i).1.length ≤ 70368744177664) (h0:0 < bs.length) :
  CallsTX PZ 39 [.own 1002 0,.pt (imgC i) 0] (WBo bs) (fun Mo c => (imgE i).2 = true ∧ Mo = WBo (bs ++ (imgE i).1) ∧ c = .tup []) (fun v => v = failV ∧ (imgE i).2 = false):=by
 unfold imgE at hb ⊢
 refine callsTX_facts Tryz.func39 facts39 rfl fun hw ho => ?_
 refine wrN (t40o bs i.datas (andE_bd1 hb) h0) rfl rfl (fun h => ⟨rfl,and_no1 h⟩) fun e1 => ?_
 have hb1:=andE_bd hb e1
 refine wrN (t42o _ i.routs (andE_bd1 hb1) (pos_app h0)) rfl rfl (fun h => ⟨rfl,and_no2 (and_no1 h)⟩) fun e2 => ?_
 refine wrN (t44o 79 _ [i.main] (andE_bd hb1 e2)) rfl rfl (fun h => ⟨rfl,and_no2 (and_no2 h)⟩) fun e3 => ?_
 obtain ⟨q1,q2⟩:_ ∧ _:=(and_fin e1 (and_fin e2 ⟨e3,rfl⟩):_ ∧ WB 79 _ = _)
 exact retR [1000,1001,1002] rfl rfl rfl rfl ⟨q1,congrArg (· ++ [TO.box 73 [.own 1000 0]]) q2,rfl⟩
def encB (i:Img):List UInt8:=match (imgE i).2 with | true => sealB ([76,72,1] ++ (imgE i).1) | false => []
theorem t13 (i:Img) (hb:(imgE i).1.length ≤ 70368744177600):CallsT PZ 13 [.agg (imgC i)] [] (Ret [] (.sl (bcells (encB i)))):=by
 refine callsT_facts Tryz.func13 facts13 rfl fun hw _ => ?_
 refine callPD t23 rfl fun _ => ?_
 refine callOD [5] [5,50] (t38n 79 [76,72,1] (by decide) (by decide)) rfl rfl rfl rfl rfl fun _ _ => ?_
 refine caughtE (t39 i [76,72,1] (by simp only [List.length_cons,List.length_nil]; omega) (by decide)) (ks:=[5,50,3]) rfl rfl rfl rfl ?_ ?_
 ·rintro Mo c0 ⟨e,rfl,_⟩
  refine ⟨rfl,?_⟩
  refine callF [50] [5] [5] (t45T 79 ([76,72,1] ++ (imgE i).1) 0) ⟨_,rfl,rfl,rfl,rfl,rfl,fun _ _ => ?_⟩
  refine callP (t25r ([76,72,1] ++ (imgE i).1) (by simp only [List.length_append,List.length_cons,List.length_nil]; omega)) rfl fun _ => ?_
  refine retP rfl ?_
  rw [encB,e]; rfl
 ·rintro e Mo hl
  obtain ⟨n1,_,rfl,_,rfl,n3,_,rfl,rfl⟩:=hl
  refine ⟨rfl,?_⟩
  refine fT_mk ?_
  refine retP rfl ?_
  rw [encB,e]; rfl
end Go.Fr.Tryz
namespace Go.Fr.Try.Pure
def stp (h x:Int):Int:=(h * 1000003 + x + 1) % 2147483647
def run (h:Int) (l:List Int):Int:=l.foldl stp h
end Go.Fr.Try.Pure
namespace Go.Fr.Tryz
open Go Go.RowKit Go.Proofs Go.Fr Go.Fr.T Go.Fr.Api
open Go.Fr.Try
theorem dig4_len (bs:List UInt8):(dig4 bs).length = 4:=rfl
theorem seal_len (b:List UInt8):(sealB b).length = b.length + 4:=by simp [sealB,dig4_len]
theorem seal_take (b:List UInt8):(sealB b).take ((sealB b).length - 4) = b:=by
 rw [seal_len,Nat.add_sub_cancel]
 simp [sealB]
theorem wholeD_iff {bs:List UInt8} {i:Img}:wholeD bs = some i ↔ imgD bs = some (i,[]):=by
 unfold wholeD
 constructor
 ·intro h
  split at h
  ·rename_i e; injection h with h; subst h; exact e
  ·cases h
 ·intro h; rw [h]
theorem dec_enc {i:Img} (h:(imgE i).2 = true):dec (encB i) = (i,0):=by
 unfold encB
 rw [h]
 simp only []
 have hl:=seal_len ([76,72,1] ++ (imgE i).1)
 have ht:=seal_take ([76,72,1] ++ (imgE i).1)
 have hlen:([76,72,1] ++ (imgE i).1).length = (imgE i).1.length + 3:=by simp
 unfold dec
 rw [ht,if_neg (by omega),if_neg,if_neg (fun q => q rfl)]
 ·have e:=img_rt.wr i [] h
  rw [List.append_nil] at e
  have e2:([76,72,1] ++ (imgE i).1).drop 3 = (imgE i).1:=rfl
  rw [e2,wholeD_iff.2 e]
 ·have:hasP (sealB ([76,72,1] ++ (imgE i).1)) [76,72,1] = true:=by
   refine decide_eq_true ⟨by rw [hl]; show 3 ≤ _; omega,rfl⟩
  rw [this]
  exact Bool.noConfusion
theorem enc_ne {i:Img} (h:(encB i).length ≠ 0):(imgE i).2 = true:=by
 cases e:(imgE i).2 with
 | true => rfl
 | false => unfold encB at h; rw [e] at h; exact absurd rfl h
theorem dec_cases (bs:List UInt8):(∃ i,dec bs = (i,0) ∧ (imgE i).2 = true ∧ encB i = bs ∧ 7 ≤ bs.length ∧ dig4 (bs.take (bs.length - 4)) = bs.drop (bs.length - 4)) ∨ dec bs = (img0,16) ∨ dec bs = (img0,17):=by
 unfold dec
 split
 ·exact .inr (.inl rfl)
 rename_i h7
 split
 ·exact .inr (.inl rfl)
 rename_i hp
 split
 ·exact .inr (.inr rfl)
 rename_i hs
 split
 ·rename_i i hi
  refine .inl ⟨i,rfl,?_⟩
  have hs:sealB (bs.take (bs.length - 4)) = bs:=Classical.not_not.1 hs
  have hp:hasP bs [76,72,1] = true:=by
   cases e:hasP bs [76,72,1] with
   | true => rfl
   | false => exact absurd e hp
  have hp:=(of_decide_eq_true hp).2
  obtain ⟨q1,q2⟩:=img_rt.rd _ _ _ (wholeD_iff.1 hi)
  rw [List.append_nil] at q2
  refine ⟨q1,?_,by omega,?_⟩
  ·unfold encB
   rw [q1]
   simp only []
   rw [← q2]
   have e3:(bs.take (bs.length - 4)).take 3 = [76,72,1]:=by
    rw [List.take_take,Nat.min_eq_left (by omega)]
    exact hp
   rw [← e3,List.take_append_drop]
   exact hs
  ·have h1:bs.take (bs.length - 4) ++ dig4 (bs.take (bs.length - 4)) = bs.take (bs.length - 4) ++ bs.drop (bs.length - 4):=by
    rw [List.take_append_drop]; exact hs
   exact List.append_cancel_left h1
 ·exact .inr (.inl rfl)
theorem enc_parts {i:Img} (hi:(encB i).length ≠ 0):encB i = [76,72,1] ++ (imgE i).1 ++ dig4 ([76,72,1] ++ (imgE i).1):=by
 unfold encB
 rw [enc_ne hi]
 rfl
def lentG (x:Lent):G:=.st [I x.slot,.bool x.excl,.bool x.re]
def slotG (x:Slot):G:=.st [I x.state,x.type.g,I x.var,I x.flag,.sl 3 (x.lent.map lentG)]
def slotsG (l:List Slot):G:=.sl 7 (l.map slotG)
def routG (r:Rout):G:=.st [.str r.name,.sl 3 (r.params.map Ty.g),r.result.g,.sl 1 (r.ties.map I),I r.slots,.sl 4 (r.blocks.map Block.g),.sl 1 (r.entry.map slotsG)]
def imgG (i:Img):G:=.st [.sl 5 (i.datas.map Data.g),.sl 9 (i.routs.map routG),I i.main]
theorem vint_lt:∀ (k z:Nat),z < 128 ^ (k + 1) → (vint z).length ≤ k + 1
 | 0,z,h => by rw [vint,dif_pos (by omega)]; simp
 | k + 1,z,h => by
  rw [vint]
  split
  ·simp
  ·have:z / 128 < 128 ^ (k + 1):=by
    rw [Nat.pow_succ] at h
    exact Nat.div_lt_of_lt_mul (by rw [Nat.mul_comm]; exact h)
   have:=vint_lt k _ this
   simp only [List.length_cons]
   omega
theorem numE_len (n:Int):(numE n).1.length ≤ 6:=by
 unfold numE
 split
 ·refine vint_lt 5 _ ?_
  unfold zz
  split <;> omega
 ·simp
theorem andE_len (a b:Enc):(andE a b).1.length ≤ a.1.length + b.1.length:=by
 unfold andE
 split <;> simp
theorem eachE_len {α:Type} {f:α → Enc} {g:α → G}:∀ (l:List α),(∀ x ∈ l,(f x).1.length ≤ 6 * (g x).bulk) → (eachE f l).1.length ≤ 6 * G.bulkAll (l.map g)
 | [],_ => by simp [eachE,okE]
 | x :: l,h => by
  have h1:=andE_len (f x) (eachE f l)
  have h2:=eachE_len l fun y hy => h y (List.mem_cons_of_mem _ hy)
  have h3:=h x (List.mem_cons_self ..)
  simp only [eachE,List.map_cons,G.bulkAll]
  omega
theorem nums_len (l:List Int):(numsE l).1.length ≤ 6 * l.length:=by
 induction l with
 | nil => simp [eachE,okE]
 | cons x l ih =>
  have h1:=andE_len (numE x) (eachE numE l)
  have h2:=numE_len x
  simp only [numsE] at ih ⊢
  simp only [eachE,List.length_cons]
  omega
theorem listE_len {α:Type} {f:α → Enc} {g:α → G} (n:Nat) (l:List α) (h:∀ x ∈ l,(f x).1.length ≤ 6 * (g x).bulk):(listE f l).1.length ≤ 6 * (G.sl n (l.map g)).bulk:=by
 have h1:=andE_len (chkE (decide (l.length ≤ 400))) (andE (numsE [(l.length:Int)]) (eachE f l))
 have h2:=andE_len (numsE [(l.length:Int)]) (eachE f l)
 have h3:=nums_len [(l.length:Int)]
 have h4:=eachE_len l h
 simp only [G.bulk]
 unfold listE
 simp only [chkE,List.length_nil,List.length_cons] at h1 h3
 simp only [chkE]
 omega
theorem name_len (s:ByteArray):(nameE s).1.length ≤ 6 * (G.str s).bulk:=by
 have h1:=andE_len (chkE (decide (s.size ≤ 200))) (andE (numsE [(s.size:Int)]) (s.data.toList,true))
 have h2:=andE_len (numsE [(s.size:Int)]) (s.data.toList,true)
 have h3:=nums_len [(s.size:Int)]
 have h4:s.data.toList.length = s.size:=by simp
 have h5:((s.data.toList,true):Enc).1.length = s.size:=h4
 simp only [G.bulk]
 unfold nameE
 simp only [chkE,List.length_nil,List.length_cons] at h1 h3
 simp only [chkE]
 omega
theorem ints_len (l:List Int):(intsE l).1.length ≤ 6 * (G.sl 1 (l.map I)).bulk:=listE_len 1 l fun x _ => by
 have:=nums_len [x]
 simpa [G.bulk] using this
theorem typ_len:∀ (d:Nat) (t:Ty),(typE d t).1.length ≤ 6 * t.g.bulk
 | 0,t => by simp [typE,chkE]
 | d + 1,.mk k i l => by
  have h1:=andE_len (numsE [k,i]) (listE (typE d) l)
  have h2:=nums_len [k,i]
  have h3:=listE_len 3 l fun x _ => typ_len d x
  simp only [Ty.g,G.bulk,G.bulkAll,Ty.gs_map] at h3 ⊢
  simp only [List.length_nil,List.length_cons] at h2
  simp only [typE,Ty.kind,Ty.id,Ty.args]
  omega
theorem full_len (t:Ty):(fullE t).1.length ≤ 6 * t.g.bulk:=typ_len 8 t
theorem types_len (l:List Ty):(typesE l).1.length ≤ 6 * (G.sl 3 (l.map Ty.g)).bulk:=listE_len 3 l fun x _ => full_len x
theorem var_len (v:Variant):(varE v).1.length ≤ 6 * v.g.bulk:=by
 have h1:=andE_len (nameE v.name) (typesE v.fields)
 have h2:=name_len v.name
 have h3:=types_len v.fields
 simp only [Variant.g,G.bulk,G.bulkAll] at h2 h3 ⊢
 unfold varE
 omega
theorem data_len (d:Api.Data):(dataE d).1.length ≤ 6 * d.g.bulk:=by
 have h1:=andE_len (nameE d.name) (andE (numsE [d.module,d.params,d.drop]) (listE varE d.variants))
 have h2:=andE_len (numsE [d.module,d.params,d.drop]) (listE varE d.variants)
 have h3:=name_len d.name
 have h4:=nums_len [d.module,d.params,d.drop]
 have h5:=listE_len 2 d.variants fun x _ => var_len x
 simp only [Data.g,G.bulk,G.bulkAll] at h3 h5 ⊢
 simp only [List.length_nil,List.length_cons] at h4
 unfold dataE
 omega
theorem ins_len (x:Ins):(insE x).1.length ≤ 6 * x.g.bulk:=by
 have h1:=andE_len (numsE [x.op,x.dst,x.a,x.b,x.n]) (andE (intsE x.args) (typesE x.types))
 have h2:=andE_len (intsE x.args) (typesE x.types)
 have h3:=nums_len [x.op,x.dst,x.a,x.b,x.n]
 have h4:=ints_len x.args
 have h5:=types_len x.types
 simp only [Ins.g,G.bulk,G.bulkAll] at h4 h5 ⊢
 simp only [List.length_nil,List.length_cons] at h3
 unfold insE
 omega
theorem block_len (x:Block):(blockE x).1.length ≤ 6 * x.g.bulk:=by
 have h1:=andE_len (listE insE x.code) (andE (numsE [x.fin.kind,x.fin.a]) (intsE x.fin.targets))
 have h2:=andE_len (numsE [x.fin.kind,x.fin.a]) (intsE x.fin.targets)
 have h3:=nums_len [x.fin.kind,x.fin.a]
 have h4:=ints_len x.fin.targets
 have h5:=listE_len 7 x.code fun y _ => ins_len y
 simp only [Block.g,Term.g,G.bulk,G.bulkAll] at h4 h5 ⊢
 simp only [List.length_nil,List.length_cons] at h3
 unfold blockE
 omega
theorem lent_len (x:Lent):(lentE x).1.length ≤ 6 * (lentG x).bulk:=by
 have h3:=nums_len [x.slot,bitI x.excl,bitI x.re]
 simp only [lentG,G.bulk,G.bulkAll]
 simp only [List.length_nil,List.length_cons] at h3
 unfold lentE
 omega
theorem slot_len (s:Slot):(slotE s).1.length ≤ 6 * (slotG s).bulk:=by
 have h1:=andE_len (numsE [s.state]) (andE (fullE s.type) (andE (numsE [s.var,s.flag]) (listE lentE s.lent)))
 have h2:=andE_len (fullE s.type) (andE (numsE [s.var,s.flag]) (listE lentE s.lent))
 have h3:=andE_len (numsE [s.var,s.flag]) (listE lentE s.lent)
 have h4:=nums_len [s.state]
 have h5:=full_len s.type
 have h6:=nums_len [s.var,s.flag]
 have h7:=listE_len 3 s.lent fun y _ => lent_len y
 simp only [slotG,G.bulk,G.bulkAll] at h7 ⊢
 simp only [List.length_nil,List.length_cons] at h4 h6
 unfold slotE
 omega
theorem slots_len (l:List Slot):(slotsE l).1.length ≤ 6 * (slotsG l).bulk:=listE_len 7 l fun y _ => slot_len y
theorem rout_len (r:Rout):(routE r).1.length ≤ 6 * (routG r).bulk:=by
 have h1:=andE_len (nameE r.name) (andE (typesE r.params) (andE (fullE r.result) (andE (intsE r.ties) (andE (numsE [r.slots]) (andE (listE blockE r.blocks) (listE slotsE r.entry))))))
 have h2:=andE_len (typesE r.params) (andE (fullE r.result) (andE (intsE r.ties) (andE (numsE [r.slots]) (andE (listE blockE r.blocks) (listE slotsE r.entry)))))
 have h3:=andE_len (fullE r.result) (andE (intsE r.ties) (andE (numsE [r.slots]) (andE (listE blockE r.blocks) (listE slotsE r.entry))))
 have h4:=andE_len (intsE r.ties) (andE (numsE [r.slots]) (andE (listE blockE r.blocks) (listE slotsE r.entry)))
 have h5:=andE_len (numsE [r.slots]) (andE (listE blockE r.blocks) (listE slotsE r.entry))
 have h6:=andE_len (listE blockE r.blocks) (listE slotsE r.entry)
 have g1:=name_len r.name
 have g2:=types_len r.params
 have g3:=full_len r.result
 have g4:=ints_len r.ties
 have g5:=nums_len [r.slots]
 have g6:=listE_len 4 r.blocks fun y _ => block_len y
 have g7:=listE_len 1 r.entry fun y _ => slots_len y
 simp only [routG,G.bulk,G.bulkAll] at g1 g2 g4 g6 g7 ⊢
 simp only [List.length_nil,List.length_cons] at g5
 unfold routE
 omega
theorem img_len (i:Img):(imgE i).1.length ≤ 6 * (imgG i).bulk:=by
 have h1:=andE_len (listE dataE i.datas) (andE (listE routE i.routs) (numsE [i.main]))
 have h2:=andE_len (listE routE i.routs) (numsE [i.main])
 have g1:=listE_len 5 i.datas fun y _ => data_len y
 have g2:=listE_len 9 i.routs fun y _ => rout_len y
 have g3:=nums_len [i.main]
 simp only [imgG,G.bulk,G.bulkAll] at g1 g2 ⊢
 simp only [List.length_nil,List.length_cons] at g3
 unfold imgE
 omega
theorem gcs_lent (x:Lent):gcs (lentG x) = lentC x:=rfl
theorem gcs_slot (x:Slot):gcs (slotG x) = slotC x:=by simp only [slotG,gcs,gflat,slotC,gcs_ty,tyC_eq,gcss_of gcs_lent,List.append_nil,List.cons_append,List.nil_append]
theorem gcs_slots (l:List Slot):gcs (slotsG l) = slotsC l:=by simp only [slotsG,gcs,slotsC,gcss_of gcs_slot]
theorem gcs_rout (r:Rout):gcs (routG r) = routC r:=by simp only [routG,gcs,gflat,routC,gcs_ty,tyC_eq,gcss_ty,gcss_I,gcss_of gcs_block,gcss_of gcs_slots,List.append_nil,List.cons_append,List.nil_append]
theorem gcs_img (i:Img):gcs (imgG i) = imgC i:=by simp only [imgG,gcs,gflat,imgC,gcss_of gcs_data,gcss_of gcs_rout,List.append_nil,List.cons_append,List.nil_append]
theorem argC_img (i:Img):argC (imgG i) = .agg (imgC i):=by rw [← gcs_img]; exact argC_st
noncomputable def tru (p:Prop):Bool:=@decide p (Classical.propDecidable p)
theorem tru_iff {p:Prop}:tru p = true ↔ p:=by unfold tru; exact @decide_eq_true_iff p (Classical.propDecidable p)
theorem tru_t {p:Prop} (h:tru p = true):p:=tru_iff.1 h
theorem tru_f {p:Prop} (h:tru p = false):¬ p:=fun q => by rw [tru_iff.2 q] at h; cases h
theorem tru_no {p:Prop} (h:¬ p):false = tru p:=by
 cases e:tru p with
 | true => exact absurd (tru_t e) h
 | false => rfl
theorem tru_yes {p:Prop} (h:p):true = tru p:=(tru_iff.2 h).symm
theorem tru_congr {p q:Prop} (h:p ↔ q):tru p = tru q:=by rw [show p = q from propext h]
theorem len_ne {α:Type} {a b:List α} (h:¬ a.length = b.length):a ≠ b:=fun e => h (by rw [e])
theorem lists_eq {α:Type} {a b:List α} {n:Nat} (ha:a.length = n) (hb:b.length = n) (h:∀ j < n,a[j]? = b[j]?):a = b:=by
 apply List.ext_getElem?
 intro i
 by_cases hi:i < n
 ·exact h i hi
 ·rw [List.getElem?_eq_none (by omega),List.getElem?_eq_none (by omega)]
theorem get_ne {α:Type} {a b:List α} {k:Nat} {x y:α} (h1:a[k]? = some x) (h2:b[k]? = some y) (h:x ≠ y):a ≠ b:=fun e => h (by rw [e,h2] at h1; injection h1 with h1; exact h1.symm)
theorem get_step {α:Type} {a b:List α} {k:Nat} {x y:α} (h:∀ j < k,a[j]? = b[j]?) (h1:a[k]? = some x) (h2:b[k]? = some y) (e:x = y):∀ j < k + 1,a[j]? = b[j]?:=by
 intro j hj
 by_cases hjk:j = k
 ·rw [hjk,h1,h2,e]
 ·exact h j (by omega)
theorem get_of {α:Type} {l:List α} {k:Nat} (h:k < l.length):∃ x,l[k]? = some x:=⟨l[k],List.getElem?_eq_getElem h⟩
theorem str_ext {a b:ByteArray} (h:a.data.toList = b.data.toList):a = b:=by
 cases a; cases b
 simp only at h
 rw [Array.toList_inj.1 h]
def EqOk (f:Nat) (args:List C) (p:Prop):Prop:=CallsT PZ f args [] (Ret [] (.bool (tru p)))
theorem t109 (a b:List (Int)):EqOk 109 [.sl (ics a),.sl (ics b)] (a = b):=by
 refine callsT_facts Tryz.func109 facts109 rfl fun hw _ => ?_
 have ha:(ics a).length = a.length:=by simp [ics]
 have hb:(ics b).length = b.length:=by simp [ics]
 have hm:a.length ≤ 9223372036854775807:=by have:=wf_len hw.1; rwa [ha] at this
 refine brn_split (fun hn => ?_) (fun hn => ?_)
 ·have hn:¬ a.length = b.length:=fun e => by
   rw [ha,hb,e] at hn
   simp at hn
  exact retP rfl (congrArg C.bool (tru_no (len_ne hn)))
 have hn:a.length = b.length:=by
  rw [ha,hb] at hn
  simp at hn
  omega
 refine loopN a.length 13 [] () (fun _ => []) (fun _ => []) (fun k _ => ∀ j < k,a[j]? = b[j]?) (fun j hj => absurd hj (by omega)) (same_keys rfl) trivial trivial (fun _ => rfl) (fun _ => rfl) ?_
 rintro k ⟨⟩ hk hinv _ _ _
 refine brn_p (fun hlt => ?_) (fun hge => ?_)
 ·have hlt:k < a.length:=by rw [ha] at hlt; omega
  obtain ⟨x,hx⟩:=get_of hlt
  obtain ⟨y,hy⟩:=get_of (l:=b) (k:=k) (by omega)
  refine idxI hx ?_
  refine idxI hy ?_
  refine brn_split (fun h => ?_) (fun h => ?_)
  ·have h:¬ x = y:=by simpa using h
   exact retP rfl (congrArg C.bool (tru_no (get_ne hx hy h)))
  ·have h:x = y:=by simpa using h
   refine Fit.in64 (by omega) (by omega) ?_
   exact ⟨(k + 1,()),⟨hlt,get_step hinv hx hy h⟩,⟨nextI,trivial⟩,trivial,nextM hlt⟩
 ·have hge:¬ k < a.length:=by rw [ha] at hge; omega
  have:k = a.length:=by omega
  subst this
  exact retP rfl (congrArg C.bool (tru_yes (lists_eq rfl hn.symm hinv)))
theorem t148 (a b:List (Lent)):EqOk 148 [.sl (a.map lentC),.sl (b.map lentC)] (a = b):=by
 refine callsT_facts Tryz.func148 facts148 rfl fun hw _ => ?_
 have ha:(a.map lentC).length = a.length:=by simp
 have hb:(b.map lentC).length = b.length:=by simp
 have hm:a.length ≤ 9223372036854775807:=by have:=wf_len hw.1; rwa [ha] at this
 refine brn_split (fun hn => ?_) (fun hn => ?_)
 ·have hn:¬ a.length = b.length:=fun e => by
   rw [ha,hb,e] at hn
   simp at hn
  exact retP rfl (congrArg C.bool (tru_no (len_ne hn)))
 have hn:a.length = b.length:=by
  rw [ha,hb] at hn
  simp at hn
  omega
 refine loopN a.length 13 [] () (fun _ => []) (fun _ => []) (fun k _ => ∀ j < k,a[j]? = b[j]?) (fun j hj => absurd hj (by omega)) (same_keys rfl) trivial trivial (fun _ => rfl) (fun _ => rfl) ?_
 rintro k ⟨⟩ hk hinv _ _ _
 refine brn_p (fun hlt => ?_) (fun hge => ?_)
 ·have hlt:k < a.length:=by rw [ha] at hlt; omega
  obtain ⟨x,hx⟩:=get_of hlt
  obtain ⟨y,hy⟩:=get_of (l:=b) (k:=k) (by omega)
  refine idxT hx rfl rfl ?_
  refine idxT hy rfl rfl ?_
  refine brn_split (fun h => ?_) (fun h => ?_)
  ·have h:¬ x = y:=fun e => by subst e; simp [ngb] at h
   exact retP rfl (congrArg C.bool (tru_no (get_ne hx hy h)))
  ·have h:x = y:=by cases x; cases y; simp [ngb] at h; simp [h]
   refine Fit.in64 (by omega) (by omega) ?_
   exact ⟨(k + 1,()),⟨hlt,get_step hinv hx hy h⟩,⟨nextI,trivial⟩,trivial,nextM hlt⟩
 ·have hge:¬ k < a.length:=by rw [ha] at hge; omega
  have:k = a.length:=by omega
  subst this
  exact retP rfl (congrArg C.bool (tru_yes (lists_eq rfl hn.symm hinv)))
theorem t141 (a b:List (Ty)) (hc:∀ x ∈ a,∀ y,EqOk 107 [tyA x,tyA y] (x = y)):EqOk 141 [.sl (a.map tyC),.sl (b.map tyC),.fn 107 [] []] (a = b):=by
 refine callsT_facts Tryz.func141 facts141 rfl fun hw _ => ?_
 have ha:(a.map tyC).length = a.length:=by simp
 have hb:(b.map tyC).length = b.length:=by simp
 have hm:a.length ≤ 9223372036854775807:=by have:=wf_len hw.1; rwa [ha] at this
 refine brn_split (fun hn => ?_) (fun hn => ?_)
 ·have hn:¬ a.length = b.length:=fun e => by
   rw [ha,hb,e] at hn
   simp at hn
  exact retP rfl (congrArg C.bool (tru_no (len_ne hn)))
 have hn:a.length = b.length:=by
  rw [ha,hb] at hn
  simp at hn
  omega
 refine loopN a.length 17 [] () (fun _ => []) (fun _ => []) (fun k _ => ∀ j < k,a[j]? = b[j]?) (fun j hj => absurd hj (by omega)) (same_keys rfl) trivial trivial (fun _ => rfl) (fun _ => rfl) ?_
 rintro k ⟨⟩ hk hinv _ _ _
 refine brn_p (fun hlt => ?_) (fun hge => ?_)
 ·have hlt:k < a.length:=by rw [ha] at hlt; omega
  obtain ⟨x,hx⟩:=get_of hlt
  obtain ⟨y,hy⟩:=get_of (l:=b) (k:=k) (by omega)
  refine idxTy hx ?_
  refine idxTy hy ?_
  refine callP (hc x (List.mem_of_getElem? hx) y) rfl fun _ => ?_
  refine brn_split (fun h => ?_) (fun h => ?_)
  ·have h:¬ x = y:=tru_f (by simpa using h)
   exact retP rfl (congrArg C.bool (tru_no (get_ne hx hy h)))
  ·have h:x = y:=tru_t (by simpa using h)
   refine Fit.in64 (by omega) (by omega) ?_
   exact ⟨(k + 1,()),⟨hlt,get_step hinv hx hy h⟩,⟨nextI,trivial⟩,trivial,nextM hlt⟩
 ·have hge:¬ k < a.length:=by rw [ha] at hge; omega
  have:k = a.length:=by omega
  subst this
  exact retP rfl (congrArg C.bool (tru_yes (lists_eq rfl hn.symm hinv)))
theorem t106 (a b:List (Ty)) (hc:∀ x ∈ a,∀ y,EqOk 107 [tyA x,tyA y] (x = y)):EqOk 106 [.sl (a.map tyC),.sl (b.map tyC),.fn 107 [] []] (a = b):=by
 refine callsT_facts Tryz.func106 facts106 rfl fun hw _ => ?_
 refine callP (t141 a b hc) rfl fun _ => ?_
 exact retP rfl rfl
theorem ty_eq {x y:Ty} (h0:x.kind = y.kind) (h1:x.id = y.id) (h2:x.args = y.args):x = y:=by
 cases x; cases y
 simp_all [Ty.kind,Ty.id,Ty.args]
theorem ty_lt {x t:Ty} (h:x ∈ t.args):SizeOf.sizeOf x < SizeOf.sizeOf t:=by
 cases t
 have:=List.sizeOf_lt_of_mem h
 simp only [Ty.args] at this
 simp only [Ty.mk.sizeOf_spec]
 omega
theorem t107n:∀ (n:Nat) (x y:Ty),SizeOf.sizeOf x < n → EqOk 107 [tyA x,tyA y] (x = y)
 | 0,x,y,h => absurd h (by omega)
 | n + 1,x,y,h => by
  have ih:∀ z ∈ x.args,∀ w,EqOk 107 [tyA z,tyA w] (z = w):=fun z hz w => t107n n z w (by have:=ty_lt hz; omega)
  refine callsT_facts Tryz.func107 facts107 rfl fun hw _ => ?_
  refine brn_p (fun h0 => ?_) (fun h0 => retP rfl (congrArg C.bool (tru_no fun e => h0 (by rw [e]))))
  refine brn_p (fun h1 => ?_) (fun h1 => retP rfl (congrArg C.bool (tru_no fun e => h1 (by rw [e]))))
  refine callP (t106 x.args y.args ih) rfl fun _ => ?_
  exact retP rfl (congrArg C.bool (tru_congr ⟨fun h => ty_eq h0 h1 h,fun e => by rw [e]⟩))
theorem t107 (x y:Ty):EqOk 107 [tyA x,tyA y] (x = y):=t107n _ x y (Nat.lt_succ_self _)
theorem t106a (a b:List Ty):EqOk 106 [.sl (a.map tyC),.sl (b.map tyC),.fn 107 [] []] (a = b):=t106 a b fun x _ y => t107 x y
theorem var_eq {x y:Variant} (h0:x.name = y.name) (h1:x.fields = y.fields):x = y:=by
 rcases x with ⟨⟩
 rcases y with ⟨⟩
 simp_all
theorem t105 (x y:Variant):EqOk 105 [.agg (variantC x),.agg (variantC y)] (x = y):=by
 refine callsT_facts Tryz.func105 facts105 rfl fun hw _ => ?_
 refine brn_p (fun h0 => ?_) (fun h0 => retP rfl (congrArg C.bool (tru_no fun e => h0 (by rw [e]))))
 refine callP (t106a x.fields y.fields) rfl fun _ => ?_
 exact retP rfl (congrArg C.bool (tru_congr ⟨fun h => var_eq (str_ext h0) h,fun e => by rw [e]⟩))
theorem t140 (a b:List (Variant)) (hc:∀ x ∈ a,∀ y,EqOk 105 [.agg (variantC x),.agg (variantC y)] (x = y)):EqOk 140 [.sl (a.map variantC),.sl (b.map variantC),.fn 105 [] []] (a = b):=by
 refine callsT_facts Tryz.func140 facts140 rfl fun hw _ => ?_
 have ha:(a.map variantC).length = a.length:=by simp
 have hb:(b.map variantC).length = b.length:=by simp
 have hm:a.length ≤ 9223372036854775807:=by have:=wf_len hw.1; rwa [ha] at this
 refine brn_split (fun hn => ?_) (fun hn => ?_)
 ·have hn:¬ a.length = b.length:=fun e => by
   rw [ha,hb,e] at hn
   simp at hn
  exact retP rfl (congrArg C.bool (tru_no (len_ne hn)))
 have hn:a.length = b.length:=by
  rw [ha,hb] at hn
  simp at hn
  omega
 refine loopN a.length 17 [] () (fun _ => []) (fun _ => []) (fun k _ => ∀ j < k,a[j]? = b[j]?) (fun j hj => absurd hj (by omega)) (same_keys rfl) trivial trivial (fun _ => rfl) (fun _ => rfl) ?_
 rintro k ⟨⟩ hk hinv _ _ _
 refine brn_p (fun hlt => ?_) (fun hge => ?_)
 ·have hlt:k < a.length:=by rw [ha] at hlt; omega
  obtain ⟨x,hx⟩:=get_of hlt
  obtain ⟨y,hy⟩:=get_of (l:=b) (k:=k) (by omega)
  refine idxT hx rfl rfl ?_
  refine idxT hy rfl rfl ?_
  refine callP (hc x (List.mem_of_getElem? hx) y) rfl fun _ => ?_
  refine brn_split (fun h => ?_) (fun h => ?_)
  ·have h:¬ x = y:=tru_f (by simpa using h)
   exact retP rfl (congrArg C.bool (tru_no (get_ne hx hy h)))
  ·have h:x = y:=tru_t (by simpa using h)
   refine Fit.in64 (by omega) (by omega) ?_
   exact ⟨(k + 1,()),⟨hlt,get_step hinv hx hy h⟩,⟨nextI,trivial⟩,trivial,nextM hlt⟩
 ·have hge:¬ k < a.length:=by rw [ha] at hge; omega
  have:k = a.length:=by omega
  subst this
  exact retP rfl (congrArg C.bool (tru_yes (lists_eq rfl hn.symm hinv)))
theorem t104 (a b:List (Variant)) (hc:∀ x ∈ a,∀ y,EqOk 105 [.agg (variantC x),.agg (variantC y)] (x = y)):EqOk 104 [.sl (a.map variantC),.sl (b.map variantC),.fn 105 [] []] (a = b):=by
 refine callsT_facts Tryz.func104 facts104 rfl fun hw _ => ?_
 refine callP (t140 a b hc) rfl fun _ => ?_
 exact retP rfl rfl
theorem data_eq {x y:Api.Data} (h0:x.name = y.name) (h1:x.module = y.module) (h2:x.params = y.params) (h3:x.drop = y.drop) (h4:x.variants = y.variants):x = y:=by
 rcases x with ⟨⟩
 rcases y with ⟨⟩
 simp_all
theorem t53 (x y:Api.Data):EqOk 53 [.agg (dataC x),.agg (dataC y)] (x = y):=by
 refine callsT_facts Tryz.func53 facts53 rfl fun hw _ => ?_
 refine brn_p (fun h0 => ?_) (fun h0 => retP rfl (congrArg C.bool (tru_no fun e => h0 (by rw [e]))))
 refine brn_p (fun h1 => ?_) (fun h1 => retP rfl (congrArg C.bool (tru_no fun e => h1 (by rw [e]))))
 refine brn_p (fun h2 => ?_) (fun h2 => retP rfl (congrArg C.bool (tru_no fun e => h2 (by rw [e]))))
 refine brn_p (fun h3 => ?_) (fun h3 => retP rfl (congrArg C.bool (tru_no fun e => h3 (by rw [e]))))
 refine callP (t104 x.variants y.variants fun a _ b => t105 a b) rfl fun _ => ?_
 exact retP rfl (congrArg C.bool (tru_congr ⟨fun h => data_eq (str_ext h0) h1 h2 h3 h,fun e => by rw [e]⟩))
theorem t103 (a b:List (Api.Data)) (hc:∀ x ∈ a,∀ y,EqOk 53 [.agg (dataC x),.agg (dataC y)] (x = y)):EqOk 103 [.sl (a.map dataC),.sl (b.map dataC),.fn 53 [] []] (a = b):=by
 refine callsT_facts Tryz.func103 facts103 rfl fun hw _ => ?_
 have ha:(a.map dataC).length = a.length:=by simp
 have hb:(b.map dataC).length = b.length:=by simp
 have hm:a.length ≤ 9223372036854775807:=by have:=wf_len hw.1; rwa [ha] at this
 refine brn_split (fun hn => ?_) (fun hn => ?_)
 ·have hn:¬ a.length = b.length:=fun e => by
   rw [ha,hb,e] at hn
   simp at hn
  exact retP rfl (congrArg C.bool (tru_no (len_ne hn)))
 have hn:a.length = b.length:=by
  rw [ha,hb] at hn
  simp at hn
  omega
 refine loopN a.length 17 [] () (fun _ => []) (fun _ => []) (fun k _ => ∀ j < k,a[j]? = b[j]?) (fun j hj => absurd hj (by omega)) (same_keys rfl) trivial trivial (fun _ => rfl) (fun _ => rfl) ?_
 rintro k ⟨⟩ hk hinv _ _ _
 refine brn_p (fun hlt => ?_) (fun hge => ?_)
 ·have hlt:k < a.length:=by rw [ha] at hlt; omega
  obtain ⟨x,hx⟩:=get_of hlt
  obtain ⟨y,hy⟩:=get_of (l:=b) (k:=k) (by omega)
  refine idxT hx rfl rfl ?_
  refine idxT hy rfl rfl ?_
  refine callP (hc x (List.mem_of_getElem? hx) y) rfl fun _ => ?_
  refine brn_split (fun h => ?_) (fun h => ?_)
  ·have h:¬ x = y:=tru_f (by simpa using h)
   exact retP rfl (congrArg C.bool (tru_no (get_ne hx hy h)))
  ·have h:x = y:=tru_t (by simpa using h)
   refine Fit.in64 (by omega) (by omega) ?_
   exact ⟨(k + 1,()),⟨hlt,get_step hinv hx hy h⟩,⟨nextI,trivial⟩,trivial,nextM hlt⟩
 ·have hge:¬ k < a.length:=by rw [ha] at hge; omega
  have:k = a.length:=by omega
  subst this
  exact retP rfl (congrArg C.bool (tru_yes (lists_eq rfl hn.symm hinv)))
theorem t52 (a b:List (Api.Data)) (hc:∀ x ∈ a,∀ y,EqOk 53 [.agg (dataC x),.agg (dataC y)] (x = y)):EqOk 52 [.sl (a.map dataC),.sl (b.map dataC),.fn 53 [] []] (a = b):=by
 refine callsT_facts Tryz.func52 facts52 rfl fun hw _ => ?_
 refine callP (t103 a b hc) rfl fun _ => ?_
 exact retP rfl rfl
theorem ins_eq {x y:Ins} (h0:x.op = y.op) (h1:x.dst = y.dst) (h2:x.a = y.a) (h3:x.b = y.b) (h4:x.n = y.n) (h5:x.args = y.args) (h6:x.types = y.types):x = y:=by
 rcases x with ⟨⟩
 rcases y with ⟨⟩
 simp_all
theorem t144 (x y:Ins):EqOk 144 [.agg (insC x),.agg (insC y)] (x = y):=by
 refine callsT_facts Tryz.func144 facts144 rfl fun hw _ => ?_
 refine brn_p (fun h0 => ?_) (fun h0 => retP rfl (congrArg C.bool (tru_no fun e => h0 (by rw [e]))))
 refine brn_p (fun h1 => ?_) (fun h1 => retP rfl (congrArg C.bool (tru_no fun e => h1 (by rw [e]))))
 refine brn_p (fun h2 => ?_) (fun h2 => retP rfl (congrArg C.bool (tru_no fun e => h2 (by rw [e]))))
 refine brn_p (fun h3 => ?_) (fun h3 => retP rfl (congrArg C.bool (tru_no fun e => h3 (by rw [e]))))
 refine brn_p (fun h4 => ?_) (fun h4 => retP rfl (congrArg C.bool (tru_no fun e => h4 (by rw [e]))))
 refine callP (t109 x.args y.args) rfl fun _ => ?_
 refine brn_split (fun h5 => ?_) (fun h5 => retP rfl (congrArg C.bool (tru_no fun e => tru_f h5 (by rw [e]))))
 refine callP (t106a x.types y.types) rfl fun _ => ?_
 exact retP rfl (congrArg C.bool (tru_congr ⟨fun h => ins_eq h0 h1 h2 h3 h4 (tru_t h5) h,fun e => by rw [e]⟩))
theorem t151 (a b:List (Ins)) (hc:∀ x ∈ a,∀ y,EqOk 144 [.agg (insC x),.agg (insC y)] (x = y)):EqOk 151 [.sl (a.map insC),.sl (b.map insC),.fn 144 [] []] (a = b):=by
 refine callsT_facts Tryz.func151 facts151 rfl fun hw _ => ?_
 have ha:(a.map insC).length = a.length:=by simp
 have hb:(b.map insC).length = b.length:=by simp
 have hm:a.length ≤ 9223372036854775807:=by have:=wf_len hw.1; rwa [ha] at this
 refine brn_split (fun hn => ?_) (fun hn => ?_)
 ·have hn:¬ a.length = b.length:=fun e => by
   rw [ha,hb,e] at hn
   simp at hn
  exact retP rfl (congrArg C.bool (tru_no (len_ne hn)))
 have hn:a.length = b.length:=by
  rw [ha,hb] at hn
  simp at hn
  omega
 refine loopN a.length 17 [] () (fun _ => []) (fun _ => []) (fun k _ => ∀ j < k,a[j]? = b[j]?) (fun j hj => absurd hj (by omega)) (same_keys rfl) trivial trivial (fun _ => rfl) (fun _ => rfl) ?_
 rintro k ⟨⟩ hk hinv _ _ _
 refine brn_p (fun hlt => ?_) (fun hge => ?_)
 ·have hlt:k < a.length:=by rw [ha] at hlt; omega
  obtain ⟨x,hx⟩:=get_of hlt
  obtain ⟨y,hy⟩:=get_of (l:=b) (k:=k) (by omega)
  refine idxT hx rfl rfl ?_
  refine idxT hy rfl rfl ?_
  refine callP (hc x (List.mem_of_getElem? hx) y) rfl fun _ => ?_
  refine brn_split (fun h => ?_) (fun h => ?_)
  ·have h:¬ x = y:=tru_f (by simpa using h)
   exact retP rfl (congrArg C.bool (tru_no (get_ne hx hy h)))
  ·have h:x = y:=tru_t (by simpa using h)
   refine Fit.in64 (by omega) (by omega) ?_
   exact ⟨(k + 1,()),⟨hlt,get_step hinv hx hy h⟩,⟨nextI,trivial⟩,trivial,nextM hlt⟩
 ·have hge:¬ k < a.length:=by rw [ha] at hge; omega
  have:k = a.length:=by omega
  subst this
  exact retP rfl (congrArg C.bool (tru_yes (lists_eq rfl hn.symm hinv)))
theorem t143 (a b:List (Ins)) (hc:∀ x ∈ a,∀ y,EqOk 144 [.agg (insC x),.agg (insC y)] (x = y)):EqOk 143 [.sl (a.map insC),.sl (b.map insC),.fn 144 [] []] (a = b):=by
 refine callsT_facts Tryz.func143 facts143 rfl fun hw _ => ?_
 refine callP (t151 a b hc) rfl fun _ => ?_
 exact retP rfl rfl
theorem block_eq {x y:Block} (h0:x.code = y.code) (h1:x.fin.kind = y.fin.kind) (h2:x.fin.a = y.fin.a) (h3:x.fin.targets = y.fin.targets):x = y:=by
 rcases x with ⟨c,⟨⟩⟩
 rcases y with ⟨c,⟨⟩⟩
 simp_all
theorem t111 (x y:Block):EqOk 111 [.agg (blockC x),.agg (blockC y)] (x = y):=by
 refine callsT_facts Tryz.func111 facts111 rfl fun hw _ => ?_
 refine callP (t143 x.code y.code fun a _ b => t144 a b) rfl fun _ => ?_
 refine brn_split (fun h0 => ?_) (fun h0 => retP rfl (congrArg C.bool (tru_no fun e => tru_f h0 (by rw [e]))))
 refine brn_p (fun h1 => ?_) (fun h1 => retP rfl (congrArg C.bool (tru_no fun e => h1 (by rw [e]))))
 refine brn_p (fun h2 => ?_) (fun h2 => retP rfl (congrArg C.bool (tru_no fun e => h2 (by rw [e]))))
 refine callP (t109 x.fin.targets y.fin.targets) rfl fun _ => ?_
 exact retP rfl (congrArg C.bool (tru_congr ⟨fun h => block_eq (tru_t h0) h1 h2 h,fun e => by rw [e]⟩))
theorem t142 (a b:List (Block)) (hc:∀ x ∈ a,∀ y,EqOk 111 [.agg (blockC x),.agg (blockC y)] (x = y)):EqOk 142 [.sl (a.map blockC),.sl (b.map blockC),.fn 111 [] []] (a = b):=by
 refine callsT_facts Tryz.func142 facts142 rfl fun hw _ => ?_
 have ha:(a.map blockC).length = a.length:=by simp
 have hb:(b.map blockC).length = b.length:=by simp
 have hm:a.length ≤ 9223372036854775807:=by have:=wf_len hw.1; rwa [ha] at this
 refine brn_split (fun hn => ?_) (fun hn => ?_)
 ·have hn:¬ a.length = b.length:=fun e => by
   rw [ha,hb,e] at hn
   simp at hn
  exact retP rfl (congrArg C.bool (tru_no (len_ne hn)))
 have hn:a.length = b.length:=by
  rw [ha,hb] at hn
  simp at hn
  omega
 refine loopN a.length 17 [] () (fun _ => []) (fun _ => []) (fun k _ => ∀ j < k,a[j]? = b[j]?) (fun j hj => absurd hj (by omega)) (same_keys rfl) trivial trivial (fun _ => rfl) (fun _ => rfl) ?_
 rintro k ⟨⟩ hk hinv _ _ _
 refine brn_p (fun hlt => ?_) (fun hge => ?_)
 ·have hlt:k < a.length:=by rw [ha] at hlt; omega
  obtain ⟨x,hx⟩:=get_of hlt
  obtain ⟨y,hy⟩:=get_of (l:=b) (k:=k) (by omega)
  refine idxT hx rfl rfl ?_
  refine idxT hy rfl rfl ?_
  refine callP (hc x (List.mem_of_getElem? hx) y) rfl fun _ => ?_
  refine brn_split (fun h => ?_) (fun h => ?_)
  ·have h:¬ x = y:=tru_f (by simpa using h)
   exact retP rfl (congrArg C.bool (tru_no (get_ne hx hy h)))
  ·have h:x = y:=tru_t (by simpa using h)
   refine Fit.in64 (by omega) (by omega) ?_
   exact ⟨(k + 1,()),⟨hlt,get_step hinv hx hy h⟩,⟨nextI,trivial⟩,trivial,nextM hlt⟩
 ·have hge:¬ k < a.length:=by rw [ha] at hge; omega
  have:k = a.length:=by omega
  subst this
  exact retP rfl (congrArg C.bool (tru_yes (lists_eq rfl hn.symm hinv)))
theorem t110 (a b:List (Block)) (hc:∀ x ∈ a,∀ y,EqOk 111 [.agg (blockC x),.agg (blockC y)] (x = y)):EqOk 110 [.sl (a.map blockC),.sl (b.map blockC),.fn 111 [] []] (a = b):=by
 refine callsT_facts Tryz.func110 facts110 rfl fun hw _ => ?_
 refine callP (t142 a b hc) rfl fun _ => ?_
 exact retP rfl rfl
theorem slot_eq {x y:Slot} (h0:x.state = y.state) (h1:x.type = y.type) (h2:x.var = y.var) (h3:x.flag = y.flag) (h4:x.lent = y.lent):x = y:=by
 rcases x with ⟨⟩
 rcases y with ⟨⟩
 simp_all
theorem t147 (x y:Slot):EqOk 147 [.agg (slotC x),.agg (slotC y)] (x = y):=by
 refine callsT_facts Tryz.func147 facts147 rfl fun hw _ => ?_
 refine brn_p (fun h0 => ?_) (fun h0 => retP rfl (congrArg C.bool (tru_no fun e => h0 (by rw [e]))))
 refine callP (t107 x.type y.type) rfl fun _ => ?_
 refine brn_split (fun h1 => ?_) (fun h1 => retP rfl (congrArg C.bool (tru_no fun e => tru_f h1 (by rw [e]))))
 refine brn_p (fun h2 => ?_) (fun h2 => retP rfl (congrArg C.bool (tru_no fun e => h2 (by rw [e]))))
 refine brn_p (fun h3 => ?_) (fun h3 => retP rfl (congrArg C.bool (tru_no fun e => h3 (by rw [e]))))
 refine callP (t148 x.lent y.lent) rfl fun _ => ?_
 exact retP rfl (congrArg C.bool (tru_congr ⟨fun h => slot_eq h0 (tru_t h1) h2 h3 h,fun e => by rw [e]⟩))
theorem t152 (a b:List (Slot)) (hc:∀ x ∈ a,∀ y,EqOk 147 [.agg (slotC x),.agg (slotC y)] (x = y)):EqOk 152 [.sl (a.map slotC),.sl (b.map slotC),.fn 147 [] []] (a = b):=by
 refine callsT_facts Tryz.func152 facts152 rfl fun hw _ => ?_
 have ha:(a.map slotC).length = a.length:=by simp
 have hb:(b.map slotC).length = b.length:=by simp
 have hm:a.length ≤ 9223372036854775807:=by have:=wf_len hw.1; rwa [ha] at this
 refine brn_split (fun hn => ?_) (fun hn => ?_)
 ·have hn:¬ a.length = b.length:=fun e => by
   rw [ha,hb,e] at hn
   simp at hn
  exact retP rfl (congrArg C.bool (tru_no (len_ne hn)))
 have hn:a.length = b.length:=by
  rw [ha,hb] at hn
  simp at hn
  omega
 refine loopN a.length 17 [] () (fun _ => []) (fun _ => []) (fun k _ => ∀ j < k,a[j]? = b[j]?) (fun j hj => absurd hj (by omega)) (same_keys rfl) trivial trivial (fun _ => rfl) (fun _ => rfl) ?_
 rintro k ⟨⟩ hk hinv _ _ _
 refine brn_p (fun hlt => ?_) (fun hge => ?_)
 ·have hlt:k < a.length:=by rw [ha] at hlt; omega
  obtain ⟨x,hx⟩:=get_of hlt
  obtain ⟨y,hy⟩:=get_of (l:=b) (k:=k) (by omega)
  refine idxT hx rfl rfl ?_
  refine idxT hy rfl rfl ?_
  refine callP (hc x (List.mem_of_getElem? hx) y) rfl fun _ => ?_
  refine brn_split (fun h => ?_) (fun h => ?_)
  ·have h:¬ x = y:=tru_f (by simpa using h)
   exact retP rfl (congrArg C.bool (tru_no (get_ne hx hy h)))
  ·have h:x = y:=tru_t (by simpa using h)
   refine Fit.in64 (by omega) (by omega) ?_
   exact ⟨(k + 1,()),⟨hlt,get_step hinv hx hy h⟩,⟨nextI,trivial⟩,trivial,nextM hlt⟩
 ·have hge:¬ k < a.length:=by rw [ha] at hge; omega
  have:k = a.length:=by omega
  subst this
  exact retP rfl (congrArg C.bool (tru_yes (lists_eq rfl hn.symm hinv)))
theorem t146 (a b:List (Slot)) (hc:∀ x ∈ a,∀ y,EqOk 147 [.agg (slotC x),.agg (slotC y)] (x = y)):EqOk 146 [.sl (a.map slotC),.sl (b.map slotC),.fn 147 [] []] (a = b):=by
 refine callsT_facts Tryz.func146 facts146 rfl fun hw _ => ?_
 refine callP (t152 a b hc) rfl fun _ => ?_
 exact retP rfl rfl
theorem t113 (a b:List Slot):EqOk 113 [.sl (a.map slotC),.sl (b.map slotC)] (a = b):=by
 refine callsT_facts Tryz.func113 facts113 rfl fun hw _ => ?_
 refine callP (t146 a b fun x _ y => t147 x y) rfl fun _ => ?_
 exact retP rfl rfl
theorem t145 (a b:List (List Slot)) (hc:∀ x ∈ a,∀ y,EqOk 113 [.sl (x.map slotC),.sl (y.map slotC)] (x = y)):EqOk 145 [.sl (a.map slotsC),.sl (b.map slotsC),.fn 113 [] []] (a = b):=by
 refine callsT_facts Tryz.func145 facts145 rfl fun hw _ => ?_
 have ha:(a.map slotsC).length = a.length:=by simp
 have hb:(b.map slotsC).length = b.length:=by simp
 have hm:a.length ≤ 9223372036854775807:=by have:=wf_len hw.1; rwa [ha] at this
 refine brn_split (fun hn => ?_) (fun hn => ?_)
 ·have hn:¬ a.length = b.length:=fun e => by
   rw [ha,hb,e] at hn
   simp at hn
  exact retP rfl (congrArg C.bool (tru_no (len_ne hn)))
 have hn:a.length = b.length:=by
  rw [ha,hb] at hn
  simp at hn
  omega
 refine loopN a.length 17 [] () (fun _ => []) (fun _ => []) (fun k _ => ∀ j < k,a[j]? = b[j]?) (fun j hj => absurd hj (by omega)) (same_keys rfl) trivial trivial (fun _ => rfl) (fun _ => rfl) ?_
 rintro k ⟨⟩ hk hinv _ _ _
 refine brn_p (fun hlt => ?_) (fun hge => ?_)
 ·have hlt:k < a.length:=by rw [ha] at hlt; omega
  obtain ⟨x,hx⟩:=get_of hlt
  obtain ⟨y,hy⟩:=get_of (l:=b) (k:=k) (by omega)
  refine idxT hx rfl rfl ?_
  refine idxT hy rfl rfl ?_
  refine callP (hc x (List.mem_of_getElem? hx) y) rfl fun _ => ?_
  refine brn_split (fun h => ?_) (fun h => ?_)
  ·have h:¬ x = y:=tru_f (by simpa using h)
   exact retP rfl (congrArg C.bool (tru_no (get_ne hx hy h)))
  ·have h:x = y:=tru_t (by simpa using h)
   refine Fit.in64 (by omega) (by omega) ?_
   exact ⟨(k + 1,()),⟨hlt,get_step hinv hx hy h⟩,⟨nextI,trivial⟩,trivial,nextM hlt⟩
 ·have hge:¬ k < a.length:=by rw [ha] at hge; omega
  have:k = a.length:=by omega
  subst this
  exact retP rfl (congrArg C.bool (tru_yes (lists_eq rfl hn.symm hinv)))
theorem t112 (a b:List (List Slot)) (hc:∀ x ∈ a,∀ y,EqOk 113 [.sl (x.map slotC),.sl (y.map slotC)] (x = y)):EqOk 112 [.sl (a.map slotsC),.sl (b.map slotsC),.fn 113 [] []] (a = b):=by
 refine callsT_facts Tryz.func112 facts112 rfl fun hw _ => ?_
 refine callP (t145 a b hc) rfl fun _ => ?_
 exact retP rfl rfl
theorem rout_eq {x y:Rout} (h0:x.name = y.name) (h1:x.params = y.params) (h2:x.result = y.result) (h3:x.ties = y.ties) (h4:x.slots = y.slots) (h5:x.blocks = y.blocks) (h6:x.entry = y.entry):x = y:=by
 rcases x with ⟨⟩
 rcases y with ⟨⟩
 simp_all
theorem t55 (x y:Rout):EqOk 55 [.agg (routC x),.agg (routC y)] (x = y):=by
 refine callsT_facts Tryz.func55 facts55 rfl fun hw _ => ?_
 refine brn_p (fun h0 => ?_) (fun h0 => retP rfl (congrArg C.bool (tru_no fun e => h0 (by rw [e]))))
 refine callP (t106a x.params y.params) rfl fun _ => ?_
 refine brn_split (fun h1 => ?_) (fun h1 => retP rfl (congrArg C.bool (tru_no fun e => tru_f h1 (by rw [e]))))
 refine callP (t107 x.result y.result) rfl fun _ => ?_
 refine brn_split (fun h2 => ?_) (fun h2 => retP rfl (congrArg C.bool (tru_no fun e => tru_f h2 (by rw [e]))))
 refine callP (t109 x.ties y.ties) rfl fun _ => ?_
 refine brn_split (fun h3 => ?_) (fun h3 => retP rfl (congrArg C.bool (tru_no fun e => tru_f h3 (by rw [e]))))
 refine brn_p (fun h4 => ?_) (fun h4 => retP rfl (congrArg C.bool (tru_no fun e => h4 (by rw [e]))))
 refine callP (t110 x.blocks y.blocks fun a _ b => t111 a b) rfl fun _ => ?_
 refine brn_split (fun h5 => ?_) (fun h5 => retP rfl (congrArg C.bool (tru_no fun e => tru_f h5 (by rw [e]))))
 refine callP (t112 x.entry y.entry fun a _ b => t113 a b) rfl fun _ => ?_
 exact retP rfl (congrArg C.bool (tru_congr ⟨fun h => rout_eq (str_ext h0) (tru_t h1) (tru_t h2) (tru_t h3) h4 (tru_t h5) h,fun e => by rw [e]⟩))
theorem t108 (a b:List (Rout)) (hc:∀ x ∈ a,∀ y,EqOk 55 [.agg (routC x),.agg (routC y)] (x = y)):EqOk 108 [.sl (a.map routC),.sl (b.map routC),.fn 55 [] []] (a = b):=by
 refine callsT_facts Tryz.func108 facts108 rfl fun hw _ => ?_
 have ha:(a.map routC).length = a.length:=by simp
 have hb:(b.map routC).length = b.length:=by simp
 have hm:a.length ≤ 9223372036854775807:=by have:=wf_len hw.1; rwa [ha] at this
 refine brn_split (fun hn => ?_) (fun hn => ?_)
 ·have hn:¬ a.length = b.length:=fun e => by
   rw [ha,hb,e] at hn
   simp at hn
  exact retP rfl (congrArg C.bool (tru_no (len_ne hn)))
 have hn:a.length = b.length:=by
  rw [ha,hb] at hn
  simp at hn
  omega
 refine loopN a.length 17 [] () (fun _ => []) (fun _ => []) (fun k _ => ∀ j < k,a[j]? = b[j]?) (fun j hj => absurd hj (by omega)) (same_keys rfl) trivial trivial (fun _ => rfl) (fun _ => rfl) ?_
 rintro k ⟨⟩ hk hinv _ _ _
 refine brn_p (fun hlt => ?_) (fun hge => ?_)
 ·have hlt:k < a.length:=by rw [ha] at hlt; omega
  obtain ⟨x,hx⟩:=get_of hlt
  obtain ⟨y,hy⟩:=get_of (l:=b) (k:=k) (by omega)
  refine idxT hx rfl rfl ?_
  refine idxT hy rfl rfl ?_
  refine callP (hc x (List.mem_of_getElem? hx) y) rfl fun _ => ?_
  refine brn_split (fun h => ?_) (fun h => ?_)
  ·have h:¬ x = y:=tru_f (by simpa using h)
   exact retP rfl (congrArg C.bool (tru_no (get_ne hx hy h)))
  ·have h:x = y:=tru_t (by simpa using h)
   refine Fit.in64 (by omega) (by omega) ?_
   exact ⟨(k + 1,()),⟨hlt,get_step hinv hx hy h⟩,⟨nextI,trivial⟩,trivial,nextM hlt⟩
 ·have hge:¬ k < a.length:=by rw [ha] at hge; omega
  have:k = a.length:=by omega
  subst this
  exact retP rfl (congrArg C.bool (tru_yes (lists_eq rfl hn.symm hinv)))
theorem t54 (a b:List (Rout)) (hc:∀ x ∈ a,∀ y,EqOk 55 [.agg (routC x),.agg (routC y)] (x = y)):EqOk 54 [.sl (a.map routC),.sl (b.map routC),.fn 55 [] []] (a = b):=by
 refine callsT_facts Tryz.func54 facts54 rfl fun hw _ => ?_
 refine callP (t108 a b hc) rfl fun _ => ?_
 exact retP rfl rfl
theorem img_eq {x y:Img} (h0:x.main = y.main) (h1:x.datas = y.datas) (h2:x.routs = y.routs):x = y:=by
 rcases x with ⟨⟩
 rcases y with ⟨⟩
 simp_all
theorem t16 (x y:Img):EqOk 16 [.agg (imgC x),.agg (imgC y)] (x = y):=by
 refine callsT_facts Tryz.func16 facts16 rfl fun hw _ => ?_
 refine brn_p (fun h0 => ?_) (fun h0 => retP rfl (congrArg C.bool (tru_no fun e => h0 (by rw [e]))))
 refine callP (t52 x.datas y.datas fun a _ b => t53 a b) rfl fun _ => ?_
 refine brn_split (fun h1 => ?_) (fun h1 => retP rfl (congrArg C.bool (tru_no fun e => tru_f h1 (by rw [e]))))
 refine callP (t54 x.routs y.routs fun a _ b => t55 a b) rfl fun _ => ?_
 exact retP rfl (congrArg C.bool (tru_congr ⟨fun h => img_eq h0 (tru_t h1) h,fun e => by rw [e]⟩))
end Go.Fr.Tryz
