/- Part of the proofs of the statements of this seat. -/
import Derived.Test.YthfdbepkalpplaaTrM1G
import Derived.Test.YthfdbepkalpplaaUnH1G
import Derived.Test.YthfdbepkalpplaaTrT4G
import Derived.WalkSmall
set_option maxRecDepth 10000
set_option linter.unusedVariables false
set_option linter.unusedSimpArgs false
namespace Go.Fr.Try
open Go Go.RowKit Go.Proofs Go.Fr Go.Fr.T Go.Fr.Api
structure cB where
 tr:Int
 t:Ty
def kh (g:cB):List C:=[IC g.tr,IC g.t.kind,IC g.t.id,.sl (g.t.args.map aI)]
inductive iq where
 | mk (assumed:Bool) (index:Int) (types:List Ty) (proofs:List iq)
def iq.assumed:iq->Bool | .mk b _ _ _=>b
def iq.index:iq->Int | .mk _ i _ _=>i
def iq.types:iq->List Ty | .mk _ _ l _=>l
def iq.proofs:iq->List iq | .mk _ _ _ l=>l
mutual
def iL:iq->List C
 | .mk b i l ps=>[.bool b,IC i,.sl (l.map aI),.sl (Qa ps)]
def Qa:List iq->List (List C)
 | []=>[]
 | p::l=>iL p::Qa l
end
theorem EK:∀l:List iq,Qa l=l.map iL
 | []=>rfl
 | p::l=>by rw[Qa,EK l,aaX]
theorem js (p:iq):iL p=[.bool p.assumed,IC p.index,.sl (p.types.map aI),.sl (p.proofs.map iL)]:=by
 cases p;rw[iL,EK];rfl
noncomputable def iM (h g:cB):Bool:=decide (h.tr=g.tr)&&uP (h.t=g.t)
theorem t79 (h g:cB):CallsT P 79 [.agg (kh h),.pt (kh g) 0] [] (aU [] (.bool (iM h g))):=by
 have a:=YR h.t g.t;rw[pT] at a;unfold iM;generalize uP (h.t=g.t)=b at a ⊢;refine af Try.func79 O5 rfl fun c _=>?_;refine ah (fun q=>?_) (fun q=>?_)
 ·refine aY a rfl fun _=>?_;exact aC rfl (vv C.bool (by rw[aaN (show h.tr=g.tr from q),aaS]))
 ·exact aC rfl (vv C.bool (by rw[aaP (show¬h.tr=g.tr from q),aaV]))
theorem Vf {l:List cB}{k:Nat}{x:cB}{K:List C->Prop}(a:l[k]?=some x) (h:K (kh x)):Fm (l.map kh) k 0 4 K :=
 ⟨kh x,by rw[aa4,a];rfl,rfl,h⟩
theorem Qb:qN Try.f101 0=true:=by kernel_rfl
theorem S0:qN Try.f78 0=true:=by kernel_rfl
abbrev Ai (gs:List cB):TO:=.row 110 4 (gs.map kh)
theorem X5 (gs:List cB) (g:cB) (l:gs.length<=400):fG P 101 [.rw 1000,.fn 79 [] [.pt (kh g) 0]] [Ai gs] (aU [Ai gs] (IC (aW (fun h=>iM h g) gs 0))):=by
 have d:=fun h=>t79 h g;generalize j:(fun h=>iM h g)=q;have d:∀h:cB,CallsT P 79 [.agg (kh h),.pt (kh g) 0] [] (aU [] (.bool (q h))):=fun h=>by rw[<-j];exact d h
 have e:(gs.map kh).length=gs.length:=vz _;refine fS 0 (.rw 1000) Try.func101 K6 rfl Qb rfl rfl rfl fun r m=>?_;refine bX gs.length 8 [0] () (fun _=>[.rw 1000]) (fun _=>[(1000,Ai gs)]) (fun k _=>aW q (gs.drop k) k=aW q gs 0) rfl (ai rfl) ⟨ai rfl,trivial⟩ ⟨.inl ⟨_,rfl,.inl ⟨rfl,rfl⟩⟩,trivial⟩ (fun _=>rfl) (fun _=>rfl) ?_;rintro k _ p a _ _ _;refine ah (fun b=>?_) (fun c=>?_)
 ·have b:k<gs.length:=by rw[e] at b;omega
  refine aX b fun x o n f=>?_;refine BS.mk (by omega) (by omega) ?_;refine Vf o ?_;refine aY (d x) rfl fun _=>?_;refine aq (fun j=>?_) (fun j=>?_)
  ·exact wK rfl rfl rfl rfl (vv IC (lV f a j))
  ·refine Fit.aaf (by omega) (by omega) ?_;exact⟨(k+1,()),⟨b,oD f a j⟩,⟨bM,ai rfl,trivial⟩,⟨.inl ⟨_,rfl,.inl ⟨rfl,rfl⟩⟩,trivial⟩,bN b⟩
 ·have c:¬k<gs.length:=by rw[e] at c;omega
  exact wK rfl rfl rfl rfl (vv IC (oE c a))
theorem t78 (gs:List cB) (g:cB) (a:gs.length<=400):fG P 78 [.rw 1000,.fn 79 [] [.pt (kh g) 0]] [Ai gs] (aU [Ai gs] (.bool (gs.any fun h=>iM h g))):=by
 have h1:=X5 gs g a;have e:=rI (fun h=>iM h g) gs;generalize aW (fun h=>iM h g) gs 0=n at h1 e;refine fS 0 (.rw 1000) Try.func78 O4 rfl S0 rfl rfl rfl fun b _=>?_;refine vK [1000] h1 rfl rfl rfl rfl rfl ?_;exact wK rfl rfl rfl rfl (vv C.bool e)
def lT (g:cB) (b:bh):Bool:=decide (g.t.kind=5)&&(decide (b.param=g.t.id)&&decide (b.trait=g.tr))
theorem t82 (g:cB) (b:bh):CallsT P 82 [.agg (aZ b),.pt (kh g) 0] [] (aU [] (.bool (lT g b))):=by
 unfold lT;refine af Try.func82 O7 rfl fun a _=>?_;refine ah (fun q=>?_) (fun q=>?_)
 ·refine aC rfl (vv C.bool ?_);rw[aaN (show g.t.kind=5 from q),aaS]
  first | rfl | trace_state
 ·exact aC rfl (vv C.bool (by rw[aaP (show¬g.t.kind=5 from q),aaV]))
noncomputable def uM:Code:=Try.f77.body.getD .skip
noncomputable def YV:Code:=wI uM
noncomputable def YW:Code:=wI (fR uM)
noncomputable def YX:Code:=wI (fR (fR uM))
noncomputable def YZ:Code:=wI (fR (fR (fR uM)))
noncomputable def Y0:Code:=wI (fR (fR (fR (fR uM))))
noncomputable def Y1:Code:=wI (fR (fR (fR (fR (fR uM)))))
noncomputable def Y2:Code:=wI (fR (fR (fR (fR (fR (fR uM))))))
noncomputable def Y3:Code:=fR (fR (fR (fR (fR (fR (fR (fR uM)))))))
noncomputable def X6:Code:=wI (fR (fR (fR (fR (fR (fR (fR uM)))))))
theorem EL:Try.f77.body=some (YV.seq (YW.seq (YX.seq (YZ.seq (Y0.seq (Y1.seq (Y2.seq (X6.seq Y3)))))))):=by kernel_rfl
def Qc:cW:={n:=97,own:=[6],frz:=[(26,0,[91])],ord:=[(24,[0,1,2,3,4,5,6,7,8,9,10,11],[[],[0],[],[],[3],[],[3,4,5],[2,3,4,5,6],[2,3,4,5,6,7],[0,1,2,3,4,5,6,7,8],[0,1,2,3,4,5,6,7,8,9],[0,1,2,3,4,5,6,7,8,9,10]])],pan:=[(3,1),(5,1),(28,1)],px:=[89],bk:=[(82,13)]}
def Y4:au:=(.reg [.op (some 6) (.boxF 110 (.t 0)) none,
  .op (some 7) (.alloc 64 [(.bool false),(.int .i64 0),(.slice none 0 0),(.slice none 0 0)]) none])
def X7:au:=(.reg [.op (some 17) (.load false 1 (.t 1)) none,
  .op (some 18) (.bin .add (.t 17) (.c (.int .i64 1))) none,
  .op none (.store 1 (.t 1) (.t 18)) none])
def VO:au:=(.seq (.reg [.op (some 19) (.load false 1 (.t 1)) none,
  .op (some 20) (.bin .gtr (.t 19) (.c (.int .i64 400))) none])
 (.cond (.t 20)
 (.reg [.op (some 21) (.mkif 45 (.c (.int .i64 2))) none,
   .pc none (.pan (.t 21)) none])
 .skip))
def Vg:au:=(.seq (.reg [.op (some 22) (.load false 1 (.t 2)) none,
  .op (some 23) (.mkfn 79 [] [(.t 6)]) none,
  .op (some 24) (.call 78 [(.t 22),(.t 23)]) none])
 (.cond (.t 24)
 (.reg [.op (some 25) (.mkif 45 (.c (.int .i64 15))) none,
   .pc none (.pan (.t 25)) none])
 .skip))
def Tm:au:=(.reg [.op (some 26) (.load false 1 (.t 3)) none,
  .op (some 27) (.mkfn 82 [] [(.t 6)]) none,
  .op (some 28) (.call 81 [(.t 26),(.t 27)]) none,
  .op (some 8) (.mov (.t 28)) none])
def S1:au:=(.seq (.reg [.op (some 29) (.mov (.t 8)) none,
  .op (some 30) (.bin .geq (.t 29) (.c (.int .i64 0))) none])
 (.cond (.t 30)
 (.seq (.reg [.op (some 31) (.mov (.t 8)) none,
   .op (some 32) (.build [(.bool false),(.int .i64 0),(.slice none 0 0),(.slice none 0 0)] [(0,1,(.c (.bool true))),(1,1,(.t 31))]) none,
   .op none (.store 4 (.t 7) (.t 32)) none])
  .ret)
 .skip))
def Ri:au:=(.reg [.op (some 33) (.load false 1 (.t 2)) none,
  .op (some 34) (.load true 4 (.t 6)) none,
  .op (some 35) (.mkF 110 1 4 [(.t 34)]) none,
  .op (some 36) (.app 110 4 48 [(.int .i64 0),(.int .i64 0),(.int .i64 0),(.slice none 0 0)] (.t 33) (.t 35)) none,
  .op none (.store 1 (.t 2) (.t 36)) none])
def X8:au:=(.seq (.seq (.reg [.op (some 38) (.fieldA 5 (.t 4)) none,
  .op (some 39) (.load false 1 (.t 38)) none,
  .op (some 40) (.len (.t 39)) none,
  .op (some 41) (.mov (.c (.int .i64 0))) none])
 (.block 0
 (.loop [42,43,44,45,10,9,46,47,48,49,50,52,53,54,55,56,57,58,51,59,60,11,12,61,62,63,64,65,13,66,67,68,69,70,71,72,15,16,73,74,75,76,77,78,79,80,81,82,83,84,85,86,87,88,89,90,91,92,93,69,94,95,41]
  (.seq (.reg [.op (some 42) (.bin .lss (.t 41) (.t 40)) none])
   (.seq (.cond (.t 42)
   .skip
   (.exit 0))
   (.seq (.block 1
   (.seq (.reg [.op (some 43) (.mov (.t 41)) none,
     .op (some 44) (.idxA 8 (.t 39) (.t 41)) none,
     .op (some 45) (.load true 8 (.t 44)) none,
     .op (some 10) (.alloc 56 [(.int .i64 0),(.int .i64 0),(.int .i64 0),(.slice none 0 0),(.int .i64 0),(.int .i64 0),(.slice none 0 0),(.int .i64 0)]) none,
     .op (some 9) (.mov (.t 43)) none,
     .op none (.store 8 (.t 10) (.t 45)) none])
    (.seq (.seq (.reg [.op (some 46) (.fieldA 0 (.t 10)) none,
     .op (some 47) (.load false 1 (.t 46)) none,
     .op (some 48) (.fieldA 0 (.t 6)) none,
     .op (some 49) (.load false 1 (.t 48)) none,
     .op (some 50) (.bin .neq (.t 47) (.t 49)) none])
    (.cond (.t 50)
    (.exit 1)
    .skip))
    (.seq (.reg [.op (some 52) (.fieldA 4 (.t 10)) none,
     .op (some 53) (.load true 3 (.t 52)) none,
     .op (some 54) (.fieldA 1 (.t 6)) none,
     .op (some 55) (.load true 3 (.t 54)) none,
     .op (some 56) (.fieldA 2 (.t 10)) none,
     .op (some 57) (.load false 1 (.t 56)) none,
     .op (some 58) (.call 24 [(.t 53),(.t 55),(.t 57)]) none,
     .op (some 51) (.mov (.t 58)) none,
     .op (some 59) (.extr (.t 51) 0) none,
     .op (some 60) (.extr (.t 51) 1) none,
     .op (some 11) (.mov (.t 59)) none,
     .op (some 12) (.mov (.t 60)) none])
    (.seq (.seq (.reg [.op (some 61) (.mov (.t 12)) none,
     .op (some 62) (.un .not (.t 61)) none])
    (.cond (.t 62)
    (.exit 1)
    .skip))
    (.seq (.reg [.op (some 63) (.mov (.t 9)) none,
     .op (some 64) (.mov (.t 11)) none,
     .op (some 65) (.build [(.bool false),(.int .i64 0),(.slice none 0 0),(.slice none 0 0)] [(1,1,(.t 63)),(2,1,(.t 64))]) none,
     .op (some 13) (.alloc 64 [(.bool false),(.int .i64 0),(.slice none 0 0),(.slice none 0 0)]) none,
     .op none (.store 4 (.t 13) (.t 65)) none])
    (.seq (.seq (.reg [.op (some 66) (.fieldA 3 (.t 10)) none,
     .op (some 67) (.load false 1 (.t 66)) none,
     .op (some 68) (.len (.t 67)) none,
     .op (some 69) (.mov (.c (.int .i64 0))) none])
    (.block 2
    (.loop [70,71,72,15,16,73,74,75,76,77,78,79,80,81,82,83,84,85,86,87,88,89,90,91,92,93,69]
     (.seq (.reg [.op (some 70) (.bin .lss (.t 69) (.t 68)) none])
      (.seq (.cond (.t 70)
      .skip
      (.exit 2))
      (.seq (.block 3
      (.seq (.reg [.op (some 71) (.idxA 2 (.t 67) (.t 69)) none,
        .op (some 72) (.load true 2 (.t 71)) none,
        .op (some 15) (.alloc 72 [(.int .i64 0),(.int .i64 0)]) none,
        .op none (.store 2 (.t 15) (.t 72)) none])
       (.seq (.reg [.op (some 16) (.alloc 32 [(.int .i64 0),(.int .i64 0),(.slice none 0 0)]) none])
       (.seq (.seq (.reg [.op (some 73) (.mov (.t 11)) none,
        .op (some 74) (.fieldA 0 (.t 15)) none,
        .op (some 75) (.load false 1 (.t 74)) none,
        .op (some 76) (.call 84 [(.t 73),(.t 75)]) none])
       (.cond (.t 76)
       (.reg [.op (some 77) (.mov (.t 11)) none,
         .op (some 78) (.fieldA 0 (.t 15)) none,
         .op (some 79) (.load false 1 (.t 78)) none,
         .op (some 80) (.idxA 3 (.t 77) (.t 79)) none,
         .op (some 81) (.load true 3 (.t 80)) none,
         .op none (.store 3 (.t 16) (.t 81)) none])
       .skip))
       (.regX [.op (some 82) (.fieldA 3 (.t 13)) none,
        .op (some 83) (.loadK 13 false 1 (.t 82)) none,
        .op (some 84) (.loadD false 1 (.t 5)) none,
        .op (some 85) (.fieldA 1 (.t 15)) none,
        .op (some 86) (.loadD false 1 (.t 85)) none,
        .op (some 87) (.loadD true 3 (.t 16)) none,
        .op (some 88) (.build [(.int .i64 0),(.int .i64 0),(.int .i64 0),(.slice none 0 0)] [(0,1,(.t 86)),(1,3,(.t 87))]) none,
        .pc (some 89) (.callV (.t 84) [(.t 88)]) none,
        .op (some 90) (.mkFD 64 1 4 [(.t 89)]) none,
        .op (some 91) (.appD 64 4 64 [(.bool false),(.int .i64 0),(.slice none 0 0),(.slice none 0 0)] (.t 83) (.t 90)) none,
        .op (some 92) (.fieldA 3 (.t 13)) none,
        .op none (.storeD 1 (.t 92) (.t 91)) none])))))
      (.reg [.op (some 93) (.bin .add (.t 69) (.c (.int .i64 1))) none,
       .op (some 69) (.mov (.t 93)) none])))))))
    (.seq (.reg [.frz 91,
     .op (some 94) (.load true 4 (.t 13)) none,
     .op none (.store 4 (.t 7) (.t 94)) none])
    .ret))))))))
   (.reg [.op (some 95) (.bin .add (.t 41) (.c (.int .i64 1))) none,
    .op (some 41) (.mov (.t 95)) none])))))))
 (.reg [.op (some 96) (.mkif 45 (.c (.int .i64 9))) none,
  .pc none (.pan (.t 96)) none]))
theorem Vh:low Try.prog Qc YV=some Y4:=by kernel_rfl
theorem Vi:low Try.prog Qc YW=some X7:=by kernel_rfl
theorem Vj:low Try.prog Qc YX=some VO:=by kernel_rfl
theorem Vk:low Try.prog Qc YZ=some Vg:=by kernel_rfl
theorem Vl:low Try.prog Qc Y0=some Tm:=by kernel_rfl
theorem Vm:low Try.prog Qc Y1=some S1:=by kernel_rfl
theorem Vn:low Try.prog Qc Y2=some Ri:=by kernel_rfl
theorem Vo:low Try.prog Qc Y3=some X8:=by kernel_rfl
def jd (x:Impl) (t:Ty):List Ty×Bool:=if x.params<0\/x.params>4 then([],false) else zp x.params.toNat x.type t
def qO (g:cB):List Impl->Nat->Option (Nat×Impl×List Ty)
 | [],_=>none
 | x::l,k=>if x.trait=g.tr/\(jd x g.t).2=true then some (k,x,(jd x g.t).1) else qO g l (k+1)
def mT (ts:List Ty) (b:bh):cB:=⟨b.trait,if ef b.param ts.length then(ts[b.param.toNat]?).getD zT else zT⟩
abbrev pW:=Except Int iq×Int
def gC (f:Int->cB->pW):List cB->Int->List iq->Except Int (List iq)×Int
 | [],c,a=>(.ok a,c)
 | g::gs,c,a=>match f c g with
  | (.ok r,b)=>gC f gs b (a++[r])
  | (.error e,b)=>(.error e,b)
noncomputable def dh (p:Prog) (b:List bh):Nat->List cB->Int->cB->pW
 | 0,_,c,_=>(.error 2,c+1)
 | n+1,d,c,g=>if c+1>400 then(.error 2,c+1) else if(d.any fun h=>iM h g)=true then(.error 15,c+1) else
  if aW (lT g) b 0>=0 then(.ok (.mk true (aW (lT g) b 0) [] []),c+1) else
  match qO g p.impls 0 with
  | none=>(.error 9,c+1)
  | some (k,x,ts)=>match gC (dh p b n (d++[g])) (x.bounds.map (mT ts)) (c+1) [] with
   | (.ok ps,a)=>(.ok (.mk false k ts ps),a)
   | (.error e,a)=>(.error e,a)
def zE (e:Int):Value:=.iface 45 (.int .i64 e)
abbrev Vp (p:Prog) (a:List bh):List C:=[.own 1000 0,.own 1001 0,.pt [.sl (a.map aZ)] 0,.pt (kg p) 0,.own 1002 0]
abbrev Mz (p:Prog) (a:List bh):C:=.fn 77 [] (Vp p a)
abbrev PB (p:Prog) (a:List bh) (c:Int) (gs:List cB):List TO:=[.box 3 [IC c],.box 107 [.rw 1003],.box 108 [Mz p a],Ai gs]
abbrev Aj (p:Prog) (a:List bh) (g:cB):List C:=.agg (kh g)::Vp p a
def RQ (p:Prog) (b:List bh) (gs:List cB) (res:pW) (Mo:List TO) (v:C):Prop:=∃r a,res=(.ok r,a)/\Mo=PB p b a gs/\v=.agg (iL r)
def PQ (p:Prog) (b:List bh) (gs:List cB) (res:pW) (Mo:List TO) (v:Value):Prop:=∃e a,res=(.error e,a)/\Mo=PB p b a gs/\v=zE e
def S2 (p:Prog) (a:List bh) (c:Int) (gs:List cB) (g:cB) (res:pW):Prop:=CallsTS P 77 (Aj p a g) (PB p a c gs) (RQ p a gs res) (PQ p a gs res)
def Ak (p:Prog) (a:List bh) (gs:List cB) (res:pW) (M':TL) (v:Value):Prop:=∃Mo,M'.sub [1000,1001,1002,1003]=some Mo/\PQ p a gs res Mo v
def MB (p:Prog) (a:List bh) (c:Int) (gs:List cB):TL:=[(7,.box 64 [.bool false,IC 0,.nils,.nils]),(1000,.box 3 [IC c]),(1001,.box 107 [.rw 1003]),(1002,.box 108 [Mz p a]),(1003,Ai gs)]
def HB (p:Prog) (g:cB) (τ:aM):Prop:=τ 1=.own 1000 0/\τ 2=.own 1001 0/\τ 4=.pt (kg p) 0/\τ 5=.own 1002 0/\τ 6=.pt (kh g) 0/\τ 7=.own 7 0
abbrev Y5:au:=.seq Y4 (.seq X7 (.seq VO (.seq Vg (.seq Tm (.seq S1 Ri)))))
theorem Jo (gs:List cB) (g:cB):gs.map kh++[[IC g.tr,IC g.t.kind,IC g.t.id,.sl (g.t.args.map aI)]]=(gs++[g]).map kh:=by rw[abB];rfl
theorem Vq (p:Prog) (a:List bh) (c:Int) (gs:List cB) (g:cB) (res:pW) (u:0<=c/\c<=400) (v:(gs.length:Int)<=c)
  (h1:c+1>400->res=(.error 2,c+1)) (o:¬c+1>400->(gs.any fun h=>iM h g)=true->res=(.error 15,c+1))
  (l:¬c+1>400->(gs.any fun h=>iM h g)=false->aW (lT g) a 0>=0->res=(.ok (.mk true (aW (lT g) a 0) [] []),c+1)) :
  evalTC P ⟨fun _=>True,[],some (Ak p a gs res)⟩ Y5 (fun _ _ _=>False) (fun L ρ=>gR L ρ [(7,some (true,4))] fun s=>gD (PB p a c gs) L (gQ s) (RQ p a gs res))
   (fun M τ=>(c+1<=400/\(gs.any fun h=>iM h g)=false/\¬aW (lT g) a 0>=0)/\M=MB p a (c+1) (gs++[g])/\HB p g τ) (cJ (PB p a c gs)) (j5 0 (Aj p a g)):=by
 have e:=t78 gs g (by omega);have d:=P5 g.tr g.t a (lT g) fun b _=>t82 g b;have n:=Jo gs g;generalize(gs.any fun h=>iM h g)=an at e o l ⊢;generalize aW (lT g) a 0=ix at d l ⊢;have m:(gs.map kh).length=gs.length:=vz _;refine Fit.aaf (by omega) (by omega) ?_;refine ah (fun q=>?_) (fun f=>?_)
 ·exact⟨zE 2,rfl,rfl,trivial,_,rfl,2,c+1,h1 q,rfl,rfl⟩
 have f:¬c+1>400:=f;refine vK [1003] e rfl rfl rfl rfl rfl ?_;refine BF (fun j=>?_) (fun j=>?_)
 ·exact⟨zE 15,rfl,rfl,trivial,_,rfl,15,c+1,o f j,rfl,rfl⟩
 refine aY d rfl fun _=>?_;refine ah (fun k=>?_) (fun k=>?_)
 ·exact pU [1000,1001,1002,1003] rfl rfl rfl rfl ⟨_,_,l f j k,rfl,by rw[js];rfl⟩
 refine rV gs.length rfl m (by decide) (by omega) ?_;exact⟨⟨by omega,j,k⟩,vv (fun r=>([(7,.box 64 [.bool false,IC 0,.nils,.nils]),(1000,.box 3 [IC (c+1)]),(1001,.box 107 [.rw 1003]),(1002,.box 108 [Mz p a]),(1003,.row 110 4 r)]:TL)) n,rfl,rfl,rfl,rfl,rfl,rfl⟩
theorem vM {n:Int}{x y:Ty}{l c:List Ty}{m a:TM}(h:mS n (x::l) (y::c) m=(a,true)):∃m1,jZ n x y m=(m1,true)/\mS n l c m1=(a,true):=by
 rw[mS] at h;cases hf:jZ n x y m with
 | mk m1 b =>
  rw[hf] at h;cases b with
  | true=>exact⟨m1,rfl,h⟩
  | false=>cases h
def Qd (m a:TM):Prop:=∀i x,br m i=some x->br a i=some x
theorem Qd.set {m:TM}{i:Int}{x:Ty}(h:br m i=none):Qd m (eI m i x):=fun j y a=>by
 rw[iK];split
 ·rename_i e;rw[e,h] at a;cases a
 ·exact a
theorem MA (n:Int):∀(p t:Ty) (m a:TM),jZ n p t m=(a,true)->Qd m a:=fun p=>dc (p:=fun p=>∀(t:Ty) (m a:TM),jZ n p t m=(a,true)->Qd m a) (fun p f t m a h=>by
 have c:∀(l:List Ty),(∀x∈l,∀(t:Ty) (m a:TM),jZ n x t m=(a,true)->Qd m a)->∀(b:List Ty) (m a:TM),mS n l b m=(a,true)->Qd m a:=by
  intro l
  induction l with
  | nil=>intro _ b m a h;rw[mS] at h;injection h with h _;subst h;exact fun i x h=>h
  | cons x l d =>
   intro e b m a h;cases b with
   | nil=>rw[mS] at h;injection h with _ h;cases h
   | cons y b =>
    obtain⟨m1,h1,k⟩:=vM h;exact fun i z c=>d (fun z c=>e z (by simp[c])) b m1 a k i z (e x (by simp) y m m1 h1 i z c)
 rw[ur,I5] at h;split at h
 ·split at h
  ·cases h
  ·split at h
   ·injection h with h _;subst h;exact fun i x h=>h
   ·rename_i j;injection h with h _;subst h;exact Qd.set j
 ·split at h
  ·split at h
   ·exact c p.args f t.args m a h
   ·cases h
  ·cases h) p
theorem Jp (n:Nat) (out:List Ty) (v:out.length=n):∀(p t:Ty) (m a:TM),jZ n p t m=(a,true)->(∀(i:Int) (x:Ty),0<=i->br a i=some x->out[i.toNat]?=some x)->subst out p=t:=fun p=>dc (p:=fun p=>∀(t:Ty) (m a:TM),jZ n p t m=(a,true)->(∀(i:Int) (x:Ty),0<=i->br a i=some x->out[i.toNat]?=some x)->subst out p=t) (fun p u t m a h e=>by
 have d:∀(l:List Ty),(∀x∈l,∀(t:Ty) (m a:TM),jZ n x t m=(a,true)->(∀(i:Int) (x:Ty),0<=i->br a i=some x->out[i.toNat]?=some x)->subst out x=t)->∀(b:List Ty) (m a:TM),l.length=b.length->mS n l b m=(a,true)->(∀(i:Int) (x:Ty),0<=i->br a i=some x->out[i.toNat]?=some x)->l.map (subst out)=b:=by
  intro l
  induction l with
  | nil=>intro _ b m a j h e;exact(abu j.symm).symm
  | cons x l c =>
   intro k b m a j h e;cases b with
   | nil=>cases j
   | cons y b =>
    obtain⟨m1,h1,f⟩:=vM h;have r:Qd m1 a:=by
     have o:∀(l b:List Ty) (m a:TM),mS n l b m=(a,true)->Qd m a:=by
      intro l
      induction l with
      | nil=>intro b m a h;rw[mS] at h;injection h with h _;subst h;exact fun i x h=>h
      | cons x l c =>
       intro b m a h;cases b with
       | nil=>rw[mS] at h;injection h with _ h;cases h
       | cons y b =>
        obtain⟨m1,h1,f⟩:=vM h;exact fun i z d=>c b m1 a f i z (MA n x y m m1 h1 i z d)
     exact o l b m1 a f
    rw[aaX,k x (by simp) y m m1 h1 (fun i z h0 d=>e i z h0 (r i z d)),c (fun z d=>k z (by simp[d])) b m1 a (by simpa using j) f e]
 rw[ur,I5] at h;rw[subst_eq];split at h
 ·rename_i s;split at h
  ·cases h
  ·rename_i w;rw[eu ⟨s,by omega,by omega⟩];split at h
   ·rename_i x k;injection h with h1 f
    subst h1;rw[e _ _ (by omega) k];exact(pz x t).1 f
   ·injection h with h1 f
    subst h1;rw[e p.id t (by omega) (by rw[iK,eu rfl])];rfl
 ·rename_i s;rw[fo fun q=>s q.1];split at h
  ·rename_i he;split at h
   ·rename_i j;exact yT he.1 he.2 (d p.args u t.args m a j h e)
   ·cases h
  ·cases h) p
theorem Jq {n:Int}{p:Ty}(h:qD n p=true) (a:p.kind=5):0<=p.id/\p.id<n/\p.args=[]:=by
 rw[yU,eu a] at h;simp only[v5,aaZ] at h;exact⟨h.1.1,h.1.2,abu h.2⟩
theorem Jr {n:Int}{p:Ty}(h:qD n p=true) (a:¬p.kind=5):∀x∈p.args,qD n x=true:=by
 rw[yU,fo a,aaY] at h;exact h
def Fr (l:List Ty) (m:TM):Prop:=∀(i:Int) (x:Ty),br m i=some x->l[i.toNat]?=some x
def Kn (m a:TM) (q:Int->Bool):Prop:=∀i,br a i≠none↔(br m i≠none\/q i=true)
theorem MC (l:List Ty):∀p:Ty,qD l.length p=true->∀m,Fr l m->∃b,jZ l.length p (subst l p) m=(b,true)/\Fr l b/\Kn m b (fun i=>hasB i p):=dc fun p ih hb m j=>by
 have r:∀(a:List Ty),(∀x∈a,∀m,Fr l m->∃b,jZ l.length x (subst l x) m=(b,true)/\Fr l b/\Kn m b (fun i=>hasB i x))->∀m,Fr l m->∃b,mS l.length a (a.map (subst l)) m=(b,true)/\Fr l b/\Kn m b (fun i=>a.any (hasB i)):=by
  intro a
  induction a with
  | nil=>exact fun _ m j=>⟨m,by rw[mS],j,fun i=>by simp⟩
  | cons x a t =>
   intro f m j;obtain⟨m1,h1,s,o⟩:=f x (by simp) m j;obtain⟨m2,w,d,h6⟩:=t (fun z r=>f z (by simp[r])) m1 s;refine⟨m2,by rw[aaX,mS,h1];exact w,d,fun i=>?_⟩;have a6:br m2 i≠none↔(br m1 i≠none\/a.any (hasB i)=true):=h6 i;have u:br m1 i≠none↔(br m i≠none\/hasB i x=true):=o i;show br m2 i≠none↔(br m i≠none\/(x::a).any (hasB i)=true);rw[a6,u,abE,abn,or_assoc]
 rw[ur,I5]
 by_cases d:p.kind=5
 ·obtain⟨b1,b2,b3⟩:=Jq hb d;obtain⟨x,f⟩:=gO (l:=l) (k:=p.id.toNat) (by omega);have c:subst l p=x:=by rw[subst_eq,eu ⟨d,b1,b2⟩,f];rfl
  have h:∀i,hasB i p=decide (p.id=i):=fun i=>by
   rw[CJ,b3,List.any_nil]
   by_cases e:p.id=i
   ·rw[eu ⟨d,e⟩,aaN e]
   ·rw[fo fun q=>e q.2,aaP e]
  rw[eu d,fo (by omega),c];cases v:br m p.id with
  | some y =>
   have e:=j _ _ v;rw[f] at e;injection e with e
   subst e;refine⟨m,by simp only;rw[(pz x x).2 rfl],j,fun i=>?_⟩;show br m i≠none↔(br m i≠none\/hasB i p=true);rw[h];constructor
   ·exact fun q=>.inl q
   ·rintro(q | q)
    ·exact q
    ·have q:=abt q;rw[<-q,v];simp
  | none =>
   refine⟨eI m p.id x,rfl,fun i y n=>?_,fun i=>?_⟩
   ·rw[iK] at n;split at n
    ·rename_i e;injection n with n;rw[e,<-n];exact f
    ·exact j i y n
   ·show br (eI m p.id x) i≠none↔(br m i≠none\/hasB i p=true);rw[h,iK]
    by_cases e:i=p.id
    ·rw[eu e,aaN e.symm];simp
    ·rw[fo e,aaP (fun q=>e q.symm)];simp
 ·have c:subst l p=.mk p.kind p.id (p.args.map (subst l)):=by rw[subst_eq,fo fun q=>d q.1]
  obtain⟨b,h1,s,o⟩:=r p.args (fun x f=>ih x f (Jr hb d x f)) m j;refine⟨b,?_,s,fun i=>?_⟩
  ·rw[fo d,c,eu ⟨rfl,rfl⟩,eu (by show p.args.length=(p.args.map _).length;rw[vz])];exact h1
  ·have u:br b i≠none↔(br m i≠none\/p.args.any (hasB i)=true):=o i;show br b i≠none↔(br m i≠none\/hasB i p=true);rw[u,CJ,fo fun q=>d q.1]
theorem zF {n:Nat}{m:TM}{i:Nat}(h:i<n):(lp n m)[i]?=some ((br m (i:Int)).getD SK):=by
 rw[lp,aa4,List.getElem?_range h];rfl
theorem EM {n:Nat}{p t:Ty}{m:TM}(h:jZ n p t []=(m,true)):(lp n m).length=n/\subst (lp n m) p=t:=by
 have b:(lp n m).length=n:=by simp[lp]
 refine⟨b,Jp n _ b p t [] m h fun i x h0 a=>?_⟩;have c:=fit_keys n p t [] ⟨by simp,by simp⟩;rw[h] at c;have d:=c.1 _ (Ev a);rw[zF (by omega),show((i.toNat:Nat):Int)=i by omega,a];rfl
theorem EN {l:List Ty}{p:Ty}(h:qD l.length p=true):∃m,jZ l.length p (subst l p) []=(m,true)/\∀i<l.length,(hasB i p=true->(lp l.length m)[i]?=l[i]?)/\(hasB i p=false->(lp l.length m)[i]?=some SK):=by
 obtain⟨m,h1,d,c⟩:=MC l p h [] fun i x q=>by cases q
 refine⟨m,h1,fun i hi=>⟨fun b=>?_,fun b=>?_⟩⟩
 ·have:=(c i).2 (.inr b);cases a:br m (i:Int) with
  | none=>exact fL a this
  | some x =>
   rw[zF hi,a];have:=d _ _ a;rw[show((i:Int)).toNat=i by omega] at this;rw[this];rfl
 ·have:¬br m (i:Int)≠none:=fun q=>by
   rcases(c i).1 q with q | q
   ·exact q rfl
   ·have q:hasB (i:Int) p=true:=q;rw[b] at q;cases q
  rw[zF hi];cases a:br m (i:Int) with
  | none=>rfl
  | some x=>rw[a] at this;exact fL (by simp) this
theorem EO {t:Ty}:iY t=true↔1<=t.kind/\t.kind<=5:=by rw[iY,v5,aaZ,aaZ]
theorem S3 {ds:List Api.Data}{n:Int}{t:Ty}(h:wD ds n t=true) (b:iY t=true) (e:¬t.kind=5):∀x∈t.args,iY x=true/\wD ds n x=true:=fun x a=>by
 obtain⟨_,_,_,d⟩:=xh h e;obtain⟨h1,c⟩:=d x a;have:=EO.1 b;exact⟨h1.resolve_right fun q=>by omega,c⟩
theorem zG {ds:List Api.Data}{n f:Int}:∀t:Ty,wD ds n t=true->iY t=true->∃x,fresh n f t=some x:=dc fun t e h c=>by
 have m:=EO.1 c;rw[mP]
 by_cases a:t.kind=5
 ·obtain⟨h1,o,j⟩:=xg h a;rw[fo (by rw[j,abL];omega),eu a];exact⟨_,rfl⟩
 ·rw[fo (by omega),fo a];have d:=S3 h c a;obtain⟨l,k⟩:=w9 (f:=fresh n f) (l:=t.args) fun x b=>e x b (d x b).2 (d x b).1;rw[k];exact⟨_,rfl⟩
theorem BM {n f m:Int}(hf:0<=f) (k:f+n<=m):∀t x:Ty,fresh n f t=some x->ins m x=true:=dc (p:=fun t=>∀x,fresh n f t=some x->ins m x=true) fun t d x h=>by
 rw[mP] at h;split at h
 ·cases h
 rename_i j;split at h
 ·injection h with h
  rw[<-h];exact vI (by omega) (by omega)
 rename_i o;cases a:lA (fresh n f) t.args with
 | none=>rw[a] at h;cases h
 | some l =>
  rw[a] at h;injection h with h
  obtain⟨h1,e⟩:=jH a;rw[<-h,vE];show(if t.kind<1\/9<t.kind then false else if t.kind=9 then _ else l.all (ins m))=true;rw[fo (by omega),fo (by omega),aaY,e];intro y c;obtain⟨z,b,rfl⟩:=abq.1 c;exact d z b _ (h1 z b)
theorem uN {n f:Int}{u ts:List Ty}(hf:0<=f) (a:(ts.length:Int)=n) (d:∀i:Nat,i<ts.length->u[f.toNat+i]?=ts[i]?):∀t x:Ty,fresh n f t=some x->gs u x=subst ts t:=dc (p:=fun t=>∀x,fresh n f t=some x->gs u x=subst ts t) fun t e x h=>by
 rw[mP] at h;split at h
 ·cases h
 rename_i k;split at h
 ·rename_i c;injection h with h
  rw[<-h,mO rfl,subst_eq,eu (by omega)];show(u[(f+t.id).toNat]?).getD _=_;rw[show(f+t.id).toNat=f.toNat+t.id.toNat by omega,d _ (by omega)]
 rename_i c;cases a:lA (fresh n f) t.args with
 | none=>rw[a] at h;cases h
 | some l =>
  rw[a] at h;injection h with h
  obtain⟨h1,j⟩:=jH a;rw[<-h,jx (by show¬t.kind=9;omega),subst_eq,fo (fun q=>c q.1)];show Ty.mk t.kind t.id (l.map (gs u))=_;rw[j,abR];exact vv _ (abV fun y b=>e y b _ (h1 y b))
def comm (a b:Impl):Prop:=∃c d:List Ty,(c.length:Int)=a.params/\(d.length:Int)=b.params/\subst c a.type=subst d b.type/\cu (subst c a.type)<=8/\(∀x∈c,cu x<=8)/\∀x∈d,cu x<=8
structure IV (p:Prog) (x:Impl):Prop where
 tr:0<=x.trait/\x.trait<p.traits.length
 sto:iY x.type=true
 pos:0<=x.params/\x.params<=4
 dp:cu x.type<=8
 fm:wD p.datas x.params x.type=true
 occ:∀k:Nat,(k:Int)<x.params->qM k x.type=true
 bd:∀b∈x.bounds,0<=b.param/\b.param<x.params
theorem iV {p:Prog}{x:Impl}(h:gB p x=true):IV p x:=by
 unfold gB at h;simp only[v5,Bool.not_eq_true'] at h;obtain⟨⟨⟨⟨⟨h1,n⟩,d⟩,c⟩,j⟩,e⟩:=h;obtain⟨v1,v2,v3,a⟩:=qL c;refine⟨eM.1 h1,d,⟨v1,v2⟩,v3,a,fun k m=>?_,fun b hb=>?_⟩
 ·have l:((x.params.toNat:Nat):Int)=x.params:=by omega
  have f:=zC p.datas x.params.toNat x.type (List.replicate x.params.toNat false) (by rw[l];exact a) (by rw[abk]) k (by omega);have:=(abX.1 j) _ (aaW f);rw[ab0,eu (by omega)] at this;simpa using this
 ·have:=(abX.1 e) b hb;rw[uH,abn,not_or,Bool.not_eq_true',Bool.not_eq_false,Bool.not_eq_true',Bool.not_eq_false] at this;have:=eM.1 this.1;omega
theorem xk {p:Prog}{a b:Impl}(t:IV p a) (hb:IV p b) (ac:ji a.type) (w:ji b.type):Rb a b↔a.trait=b.trait/\comm a b:=by
 obtain⟨x,d⟩:=zG (f:=0) a.type t.fm t.sto;obtain⟨y,m⟩:=zG (f:=a.params) b.type hb.fm hb.sto;have a0:=t.pos;have b0:=hb.pos;have e:(zeros (a.params+b.params).toNat).length=(a.params+b.params).toNat:=by rw[zeros,abk]
 have q:∀x∈zeros (a.params+b.params).toNat,cu x<=8:=fun x d=>by rw[(abU.1 d).2];decide
 constructor
 ·rintro⟨h1,_,_,_,_,x',y',s,o,h⟩;refine⟨h1,?_⟩;rw[d] at s;rw[m] at o;injection s with s
  injection o with o
  subst s o;obtain⟨u,aa,l,hu,v⟩:=Jm (by rw[e];omega) q h;rw[e] at aa;have l1:(u.take a.params.toNat).length=a.params.toNat:=by rw[abJ];omega
  have l2:(u.drop a.params.toNat).length=b.params.toNat:=by rw[List.length_drop];omega
  have r:=uN (n:=a.params) (f:=0) (u:=u) (ts:=u.take a.params.toNat) (abb _) (by omega) (fun i hi=>by
   rw[abD,eu (by omega)];simp) a.type x d
  have g2:=uN (n:=b.params) (f:=a.params) (u:=u) (ts:=u.drop a.params.toNat) a0.1 (by omega) (fun i hi=>by rw[abx]) b.type y m;exact⟨u.take a.params.toNat,u.drop a.params.toNat,by omega,by omega,by rw[<-r,<-g2,l],by rw[<-r];exact v,fun z c=>hu z (List.take_subset _ _ c),fun z c=>hu z (List.drop_subset _ _ c)⟩
 ·rintro⟨h1,j,k,l1,l2,l,v,d1,d2⟩;refine⟨h1,a0.1,b0.1,a0.2,b0.2,x,y,d,m,?_⟩;have r:=uN (n:=a.params) (f:=0) (u:=j++k) (ts:=j) (abb _) l1 (fun i hi=>by
   rw[abF (by simpa using hi)];simp) a.type x d
  have g2:=uN (n:=b.params) (f:=a.params) (u:=j++k) (ts:=k) a0.1 l2 (fun i hi=>by
   rw[abG (by omega)];congr 1;omega) b.type y m
  obtain⟨dz,oz,c⟩:=Gc (a.params+b.params).toNat 0;refine Jl c ?_ (fun z c=>by have:=q z c;omega) (u:=j++k) ⟨by rw[e,abI];omega,fun i x d hk=>?_⟩ (by rw[r,g2,l]) (fun z c=>?_) (by rw[r];exact v)
  ·unfold nD;have s:=(xj a.type x d ac).2;have o:=(xj b.type y m w).2;have q1:=t.dp;have q2:=hb.dp;rw[e,show(((a.params+b.params).toNat:Nat):Int)=a.params+b.params by omega,BM (abb 0) (show 0+a.params<=a.params+b.params by omega) a.type x d,BM a0.1 (abb _) b.type y m,aaP (by omega)];rfl
  ·have:=(abU.1 (show x∈List.replicate _ _ from aaW d)).2;rw[this] at hk;exact fL rfl hk
  ·rcases aaU.1 c with c | c
   ·exact d1 z c
   ·exact d2 z c
def Tn (out:List Ty) (s:rN):Prop:=out.length=s.1.length/\∀i:Nat,s.2[i]?=some true->out[i]?=s.1[i]?
theorem Js (out:List Ty):∀(p t:Ty) (s:rN),s.2.length=s.1.length->(vL p t s).1=true->Tn out (vL p t s).2->Tn out s/\subst out p=t:=dc (p:=fun p=>∀(t:Ty) (s:rN),s.2.length=s.1.length->(vL p t s).1=true->Tn out (vL p t s).2->Tn out s/\subst out p=t) fun p ih t s hl h a=>by
 rw[C4] at h a
 by_cases r:p.kind=5
 ·rw[eu r] at h a
  by_cases hi:p.id<0\/(s.1.length:Int)<=p.id
  ·rw[eu hi] at h;cases h
  ·rw[fo hi] at h a;have b:out.length=s.1.length:=by
    split at a
    ·exact a.1
    ·have:=a.1;rwa [abw] at this
   rw[subst_eq,eu (by omega)]
   by_cases f:s.2[p.id.toNat]?=some true
   ·rw[eu f] at h a;have h:=Ee h;refine⟨a,?_⟩;rw[a.2 _ f,h];rfl
   ·rw[fo f] at h a;have n:p.id.toNat<s.1.length:=by omega
    refine⟨⟨b,fun i c=>?_⟩,?_⟩
    ·have d:p.id.toNat≠i:=fun e=>f (e▸c);have:=a.2 i (by show(s.2.set _ _)[i]?=_;rw[abN d];exact c);rw[this];show(s.1.set _ _)[i]?=_;rw[abN d]
    ·have:=a.2 p.id.toNat (by show(s.2.set _ _)[p.id.toNat]?=_;rw[abS (by omega)]);rw[this];show((s.1.set _ _)[p.id.toNat]?).getD _=_;rw[abS n];rfl
 ·rw[fo r] at h a
  by_cases v:p.kind≠t.kind\/p.id≠t.id\/p.args.length≠t.args.length
  ·rw[eu v] at h;cases h
  ·rw[fo v] at h a;have hL:∀(l m:List Ty) (s:rN),(∀x∈l,x∈p.args)->l.length=m.length->s.2.length=s.1.length->(EJ l m s).1=true->Tn out (EJ l m s).2->Tn out s/\l.map (subst out)=m:=by
    intro l
    induction l with
    | nil =>
     intro m s _ j _ _ a;cases m with
     | nil=>rw[EJ] at a;exact⟨a,rfl⟩;all_goals (intros;contradiction)
     | cons y m=>cases j
    | cons x l k =>
     intro m s w j hs h a;cases m with
     | nil=>cases j
     | cons y m =>
      rw[EJ] at h a
      by_cases o:(vL x y s).1=true
      ·rw[eu o] at h a;have b:=C5 x y s;obtain⟨a1,u⟩:=k m (vL x y s).2 (fun z hz=>w z (by simp[hz])) (by simpa using j) (by omega) h a;obtain⟨b1,b2⟩:=ih x (w x (by simp)) y s hs o a1;exact⟨b1,by rw[aaX,u,b2]⟩
      ·rw[fo o] at h;cases h
   obtain⟨a1,u⟩:=hL p.args t.args s (fun _ h=>h) (by omega) hl h a;refine⟨a1,?_⟩;rw[subst_eq,fo (fun q=>r q.1),u];exact yT (by show p.kind=t.kind;omega) (by show p.id=t.id;omega) rfl
theorem Qe {B:Nat}:∀(p t:Ty) (s:rN),cu t<=B->(∀x∈s.1,cu x<=B)->∀x∈(vL p t s).2.1,cu x<=B:=dc (p:=fun p=>∀(t:Ty) (s:rN),cu t<=B->(∀x∈s.1,cu x<=B)->∀x∈(vL p t s).2.1,cu x<=B) fun p j t s f a=>by
 rw[C4];split
 ·split
  ·exact a
  ·split
   ·exact a
   ·intro x b;rcases ab4 b with b | rfl
    ·exact a x b
    ·exact f
 ·split
  ·exact a
  ·have k:∀(l m:List Ty) (s:rN),(∀x∈l,x∈p.args)->(∀x∈m,cu x<=B)->(∀x∈s.1,cu x<=B)->∀x∈(EJ l m s).2.1,cu x<=B:=by
    intro l
    induction l with
    | nil =>
     intro m s _ _ a;rw[EJ]
     ·exact a
     ·intros;contradiction
    | cons x l c =>
     intro m s b e a;cases m with
     | nil =>
      rw[EJ]
      ·exact a
      ·intros;contradiction
     | cons y m =>
      have h1:=j x (b x (by simp)) y s (e y (by simp)) a;rw[EJ];split
      ·exact c m _ (fun z d=>b z (by simp[d])) (fun z d=>e z (by simp[d])) h1
      ·exact h1
   exact k p.args t.args s (fun _ h=>h) (fun x b=>by have:=jY b;have:=di t;omega) a
theorem BN {x:Impl}{t:Ty}(h:Ah x t=true) (e:cu t<=8):∃ts,(ts.length:Int)=x.params/\subst ts x.type=t/\∀y∈ts,cu y<=8:=by
 unfold Ah at h;simp only[v5,aaZ] at h;obtain⟨h1,f,a⟩:=h;unfold SY at a;have d:=C5 x.type t (List.replicate x.params.toNat zT,List.replicate x.params.toNat false);have c:=Js (vL x.type t (List.replicate x.params.toNat zT,List.replicate x.params.toNat false)).2.1 x.type t (List.replicate x.params.toNat zT,List.replicate x.params.toNat false) (by rw[abk,abk]) a ⟨rfl,fun _ _=>rfl⟩;refine⟨_,?_,c.2,Qe x.type t _ e fun y b=>by rw[(abU.1 b).2];decide⟩;rw[d.1,abk];omega
theorem Gh {p:Prog}{a b:Impl}{t:Ty}(q:IV p a) (hb:IV p b) (f:ji a.type) (c:ji b.type) (e:a.trait=b.trait) (d:cu t<=8) (h1:Ah a t=true) (o:Ah b t=true):Rb a b:=by
 obtain⟨l,m,s1,j⟩:=BN h1 d;obtain⟨k,h,s2,n⟩:=BN o d;exact(xk q hb f c).2 ⟨e,l,k,m,h,by rw[s1,s2],by rw[s1];exact d,j,n⟩
theorem Qf {ds:List Api.Data}{n:Int}:∀t:Ty,wD ds n t=true->qD n t=true:=dc fun t c h=>by
 rw[yU]
 by_cases a:t.kind=5
 ·obtain⟨h1,e,d⟩:=xg h a;rw[eu a,aaN h1,aaN e,d];rfl
 ·obtain⟨_,_,_,f⟩:=xh h a;rw[fo a,aaY];exact fun x b=>c x b (f x b).2
theorem Qg {k:Int}:∀t:Ty,qM k t=true->hasB k t=true:=dc fun t c h=>by
 rw[uI] at h;rw[CJ]
 by_cases a:t.kind=5
 ·rw[eu a,aaZ] at h;rw[eu ⟨a,h⟩]
 ·rw[fo a,abO] at h;rw[fo (fun q=>a q.1),abO];obtain⟨x,b,d⟩:=h;exact⟨x,b,c x b d⟩
theorem s5 {p:Prog}{x:Impl}(a:IV p x) (t:Ty) (ts:List Ty):jd x t=(ts,true)↔(ts.length:Int)=x.params/\subst ts x.type=t:=by
 have h0:=a.pos;unfold jd;rw[fo (by omega)];unfold zp;constructor
 ·intro h;cases hf:jZ x.params.toNat x.type t [] with
  | mk m b =>
   rw[hf] at h;cases b with
   | false=>injection h with _ h;cases h
   | true =>
    have:=EM hf;injection h with h _
    have h:lp x.params.toNat m=ts:=h;rw[h] at this;exact⟨by omega,this.2⟩
 ·rintro⟨h1,rfl⟩;have f:(x.params.toNat:Int)=(ts.length:Nat):=by omega
  have c:x.params.toNat=ts.length:=by omega
  obtain⟨m,e,d⟩:=EN (l:=ts) (p:=x.type) (Qf x.type (by rw[h1];exact a.fm));rw[c,e];rw[eu rfl];refine Prod.ext ?_ rfl;refine abP fun i=>?_
  by_cases hi:i<ts.length
  ·exact(d i hi).1 (Qg _ (a.occ i (by omega)))
  ·rw[abl (by simp[lp];omega),abl (by show ts.length<=i;omega)]
theorem Qh {ts:List Ty}{k:Nat}{y:Ty}(b:ts[k]?=some y):∀t:Ty,qM k t=true->cu y<=cu (subst ts t):=dc fun t d h=>by
 have f:=(aaR.1 b).1;rw[uI] at h;rw[subst_eq]
 by_cases a:t.kind=5
 ·rw[eu a,aaZ] at h;rw[eu (by omega),h,show((k:Nat):Int).toNat=k by omega,b];exact aa0 _
 ·rw[fo a,abO] at h;obtain⟨x,c,e⟩:=h;rw[fo (fun q=>a q.1),di (.mk t.kind t.id (t.args.map (subst ts)))];have:=jY (l:=t.args.map (subst ts)) (abq.2 ⟨x,c,rfl⟩);have:=d x c e;show _<=cG (t.args.map (subst ts))+1;omega
theorem zH {p:Prog}{x:Impl}(b:IV p x) {t:Ty}{ts:List Ty}(d:(ts.length:Int)=x.params) (c:subst ts x.type=t):∀y∈ts,cu y<=cu t:=fun y a=>by
 obtain⟨i,hi⟩:=List.getElem?_of_mem a;have:=(aaR.1 hi).1;rw[<-c];exact Qh hi x.type (b.occ i (by omega))
theorem zI {p:Prog}{a b:Impl}{t:Ty}{e f:List Ty}(h:IV p a) (hb:IV p b) (d:cu t<=8) (h1:jd a t=(e,true)) (l:jd b t=(f,true)):comm a b:=by
 obtain⟨k,s1⟩:=(s5 h t e).1 h1;obtain⟨j,s2⟩:=(s5 hb t f).1 l;exact⟨e,f,k,j,by rw[s1,s2],by rw[s1];exact d,fun y c=>abv (zH h k s1 y c) d,fun y c=>abv (zH hb j s2 y c) d⟩
theorem CallsTS.imp {P:Program}{f:Nat}{args:List C}{Lin:List TO}{R R':List TO->C->Prop}{Pp Pp':List TO->Value->Prop}(h:CallsTS P f args Lin R Pp)
  (r:∀Mo c,R Mo c->R' Mo c) (x:∀Mo v,Pp Mo v->Pp' Mo v):CallsTS P f args Lin R' Pp' :=
 ⟨fun F Li t h1 z o=>let k:=h.out F Li t h1 z o;⟨k.ent,gP.aao,fun w p=>(k.run w p).mono fun e w' q=>by
  rcases q with⟨v,F',Lo,l,b,m,Mo,c,d,j,a,y,q5⟩ | ⟨v,ch,F',Lo,l,b,m,n,u,s,Mo,d,j,a⟩
  ·exact .inl ⟨v,F',Lo,l,b,m,Mo,c,d,j,a,y,r _ _ q5⟩
  ·exact .inr ⟨v,ch,F',Lo,l,b,m,n,u,s,Mo,d,j,x _ _ a⟩⟩⟩
theorem HT (ks:List Nat) {L:TL}{ρ:aM}{ps:Value->Prop}{hb:List (Nat×Nat)}{st:TL->Value->Prop}{Pp:List TO->Value->Prop}{d:List Nat}{f:Nat}{args a:List C}{K:TL->aM->C->Prop}{x:C}{Lin Lin' Lo:List TO}(h:CallsTS P f a Lin' (aU Lo x) Pp) (p:L.sub ks=some Lin)
  (e:(T.aS ks&&qu ks d&&aK Lin ks ks&&jJ L ks hb)=true) (u:(args.map fun c=>c.aaj.ren (bB ks 1000))=a) (l:Lin.map (TO.aad (C.ren (bB ks 1000)))=Lin') (w:ks.length=Lo.length)
  (t:∀v Mo,Pp Mo v->ps v/\st (TL.puts [] ks (Mo.map (TO.aad (C.ren (aJ ks))))) v)
  (k:Wf x->(∀o∈Lo,o.Wf)->K (((L.aae ks).kills (rowsOf L ks)).puts ks (Lo.map (TO.aad (C.ren (aJ ks))))) (dF (rowsOf L ks) ρ) (x.ren (aJ ks)).slt):tL P ps hb st d f args L ρ K:=by
 subst u l;simp only[v5] at e;obtain⟨⟨⟨j,m⟩,c3⟩,c4⟩:=e;exact⟨ks,Lin,_,_,p,j,m,c3,c4,h,fun v Mo q _ _=>t v Mo q,fun v Mo ⟨r,n⟩ s b=>by subst r n;exact⟨w,k s b⟩⟩
theorem HU (ks:List Nat) {L:TL}{ρ:aM}{ps:Value->Prop}{hb:List (Nat×Nat)}{st:TL->Value->Prop}{Pp:List TO->Value->Prop}{b:List Nat}{f:Nat}{args a:List C}{K:TL->aM->C->Prop}{Lin Lin':List TO}(h:CallsTS P f a Lin' (fun _ _=>False) Pp) (l:L.sub ks=some Lin)
  (d:(T.aS ks&&qu ks b&&aK Lin ks ks&&jJ L ks hb)=true) (n:(args.map fun c=>c.aaj.ren (bB ks 1000))=a) (j:Lin.map (TO.aad (C.ren (bB ks 1000)))=Lin')
  (m:∀v Mo,Pp Mo v->ps v/\st (TL.puts [] ks (Mo.map (TO.aad (C.ren (aJ ks))))) v):tL P ps hb st b f args L ρ K:=by
 subst n j;simp only[v5] at d;obtain⟨⟨⟨e,k⟩,c3⟩,c4⟩:=d;exact⟨ks,Lin,_,_,l,e,k,c3,c4,h,fun v Mo q _ _=>m v Mo q,fun v Mo q=>q.elim⟩
theorem X9 (x:Impl) (t:Ty):CallsT P 24 [aV x.type,aV t,IC x.params] [] (aU [] (.tup [.sl ((jd x t).1.map aI),.bool (jd x t).2])):=by
 unfold jd
 by_cases h:x.params<0\/x.params>4
 ·rw[eu h];refine af Try.func24 GP rfl fun c _=>?_;refine ah (fun _=>aC rfl rfl) (fun b=>ah (fun _=>aC rfl rfl) (fun a=>fL h ?_));have b:¬x.params<0:=b;have a:¬x.params>4:=a;omega
 ·rw[fo h];have:=t24 x.type t x.params.toNat (by omega);rw[show((x.params.toNat:Nat):Int)=x.params by omega] at this;exact this
theorem Vr {l:List Ty}{z:Int}{x:Ty}{K:List C->Prop}(h0:0<=z) (a:l[z.toNat]?=some x) (h:K [IC x.kind,IC x.id,.sl (x.args.map aI)]):uY (l.map aI) z 3 K:=yZ h0 a h
def eB (p:Prog) (g:cB):aM:=bA (some 1) (.own 1000 0) (bA (some 2) (.own 1001 0) (bA (some 4) (.pt (kg p) 0) (bA (some 5) (.own 1002 0) (bA (some 6) (.pt (kh g) 0) (bA (some 7) (.own 7 0) fun _=>.any)))))
def VP (p:Prog) (b:List bh) (gs:List cB) (res:pW):TK:=fun M τ=>τ 7=.own 7 0/\∃r a,res=(.ok r,a)/\M.sub [1000,1001,1002,1003,7]=some (PB p b a gs++[.box 64 (iL r)])
def S5 (k:Nat) (ts:List Ty):Except Int (List iq)×Int->pW
 | (.ok ps,a)=>(.ok (.mk false k ts ps),a)
 | (.error e,a)=>(.error e,a)
theorem EP (ps:List iq) (r:iq):ps.map iL++[[.bool r.assumed,IC r.index,.sl (r.types.map aI),.sl (r.proofs.map iL)]]=(ps++[r]).map iL:=by rw[abB,aaX,abC,js r]
theorem Vs (p:Prog) (o:List bh) (c:Int) (gs:List cB) (g:cB) (res:pW) (f:Int->cB->pW) (fi:List Impl->Nat->Option (Nat×Impl×List Ty)) (hc:0<=c/\c<=400) (hg:(gs.length:Int)<=c)
  (ca:p.impls.length<=9223372036854775807)
  (bj:∀k,fi [] k=none) (ar:∀x l k,fi (x::l) k=if x.trait=g.tr/\(jd x g.t).2=true then some (k,x,(jd x g.t).1) else fi l (k+1))
  (hn:fi p.impls 0=none->res=(.error 9,c)) (hs:∀k x ts,fi p.impls 0=some (k,x,ts)->res=S5 k ts (gC f (x.bounds.map (mT ts)) c []))
  (hf:∀u g',c<=u->u<=400->S2 p o u gs g' (f u g')/\∀r m,f u g'=(.ok r,m)->u<m/\m<=400) :
  evalTC P ⟨fun _=>True,[],some (Ak p o gs res)⟩ X8 (fun _ _ _=>False) (VP p o gs res) (fun _ _=>False) (MB p o c gs) (eB p g):=by
 have ao:=fun x=>X9 x g.t;have bl:=fun(ts:List Ty) (n:Int)=>YQ (ts.map aI) n;generalize al:(fun x=>jd x g.t)=mI;have al:∀x,jd x g.t=mI x:=fun x=>by rw[<-al]
 have ar:∀x l k,fi (x::l) k=if x.trait=g.tr/\(mI x).2=true then some (k,x,(mI x).1) else fi l (k+1):=fun x l k=>by rw[<-al];exact ar x l k
 have ao:∀x:Impl,CallsT P 24 [aV x.type,aV g.t,IC x.params] [] (aU [] (.tup [.sl ((mI x).1.map aI),.bool (mI x).2])):=fun x=>by rw[<-al];exact ao x
 have az:(p.impls.map dH).length=p.impls.length:=vz _;have ba:∀x:Impl,(x.bounds.map aZ).length=x.bounds.length:=fun x=>vz _;have an:∀l:List Ty,(l.map aI).length=l.length:=fun l=>vz _;have bt:∀c ac,gC f [] c ac=(.ok ac,c):=fun c ac=>rfl;have bd:∀g l c ac,gC f (g::l) c ac=match f c g with | (.ok r,u)=>gC f l u (ac++[r]) | (.error e,u)=>(.error e,u):=fun g l c ac=>rfl
 refine bX p.impls.length 41 [] () (fun _=>[]) (fun _=>[(7,.box 64 [.bool false,IC 0,.nils,.nils]),(1000,.box 3 [IC c]),(1001,.box 107 [.rw 1003]),(1002,.box 108 [Mz p o]),(1003,Ai gs)]) (fun k _=>fi (p.impls.drop k) k=fi p.impls 0) rfl (ai rfl) trivial ⟨.inl ⟨_,rfl,.inl ⟨rfl,rfl⟩⟩,.inl ⟨_,rfl,.inl ⟨rfl,rfl⟩⟩,.inl ⟨_,rfl,.inl ⟨rfl,rfl⟩⟩,.inl ⟨_,rfl,.inl ⟨rfl,rfl⟩⟩,.inl ⟨_,rfl,.inl ⟨rfl,rfl⟩⟩,trivial⟩ (fun _=>rfl) (fun _=>rfl) ?_;rintro k _ hk d _ _ _;have d:fi (p.impls.drop k) k=fi p.impls 0:=d;refine ah (fun ab=>?_) (fun aw=>?_)
 ·have ab:k<p.impls.length:=by rw[az] at ab;omega
  refine aX ab fun x hx ci bk=>?_;have ay:=ba x;rw[bk,ar] at d;refine j4 (by omega) (show p.impls[((k:Int)).toNat]?=some x from hx) ?_;refine aR (fun q=>?_) (fun q=>?_)
  ·rw[fo (fun z=>q z.1)] at d;refine Fit.aaf (by omega) (by omega) ?_;exact⟨(k+1,()),⟨ab,d⟩,⟨bM,trivial⟩,⟨.inl ⟨_,rfl,.inl ⟨rfl,rfl⟩⟩,.inl ⟨_,rfl,.inl ⟨rfl,rfl⟩⟩,.inl ⟨_,rfl,.inl ⟨rfl,rfl⟩⟩,.inl ⟨_,rfl,.inl ⟨rfl,rfl⟩⟩,.inl ⟨_,rfl,.inl ⟨rfl,rfl⟩⟩,trivial⟩,bN ab⟩
  refine aY (ao x) rfl fun _=>?_;refine aq (fun q2=>?_) (fun q2=>?_)
  ·have q2:(mI x).2=false:=by simpa using q2
   rw[fo (fun z=>by rw[q2] at z;exact aa7 z.2)] at d;refine Fit.aaf (by omega) (by omega) ?_;exact⟨(k+1,()),⟨ab,d⟩,⟨bM,trivial⟩,⟨.inl ⟨_,rfl,.inl ⟨rfl,rfl⟩⟩,.inl ⟨_,rfl,.inl ⟨rfl,rfl⟩⟩,.inl ⟨_,rfl,.inl ⟨rfl,rfl⟩⟩,.inl ⟨_,rfl,.inl ⟨rfl,rfl⟩⟩,.inl ⟨_,rfl,.inl ⟨rfl,rfl⟩⟩,trivial⟩,bN ab⟩
  have q2:(mI x).2=true:=by simpa using q2
  have q:x.trait=g.tr:=q;rw[eu ⟨q,q2⟩] at d;have am:=hs k x _ d.symm;generalize cd:(mI x).1=ts at am ⊢;refine bX x.bounds.length 69 [] (([]:List iq),c) (fun _=>[]) (fun s=>[(7,.box 64 [.bool false,IC 0,.nils,.nils]),(10,.box 56 [IC x.trait,IC x.module,IC x.params,.sl (x.bounds.map aZ),IC x.type.kind,IC x.type.id,.sl (x.type.args.map aI),IC x.func]),(13,.box 64 [.bool false,IC k,.sl (ts.map aI),.rw 91]),(91,.row 64 4 (s.1.map iL)),(1000,.box 3 [IC s.2]),(1001,.box 107 [.rw 1003]),(1002,.box 108 [Mz p o]),(1003,Ai gs)]) (fun j s=>S5 k ts (gC f ((x.bounds.drop j).map (mT ts)) s.2 s.1)=res/\c+j<=s.2/\s.2<=400/\s.1.length=j) ⟨am.symm,by simp,hc.2,rfl⟩ (ai rfl) trivial
   ⟨.inl ⟨_,rfl,.inl ⟨rfl,rfl⟩⟩,.inl ⟨_,rfl,.inl ⟨rfl,rfl⟩⟩,.inl ⟨_,rfl,.inr ⟨64,_,_,rfl,rfl,_,_,rfl,ai rfl,_,_,rfl,ai rfl,_,_,rfl,ai rfl,_,_,rfl,sN rfl rfl,rfl⟩⟩,.inr ⟨rfl,64,4,rfl⟩,.inl ⟨_,rfl,.inl ⟨rfl,rfl⟩⟩,.inl ⟨_,rfl,.inl ⟨rfl,rfl⟩⟩,.inl ⟨_,rfl,.inl ⟨rfl,rfl⟩⟩,.inl ⟨_,rfl,.inl ⟨rfl,rfl⟩⟩,trivial⟩ (fun _=>rfl) (fun _=>rfl) ?_
  rintro j s hj a _ _ _;have a:S5 k ts (gC f ((x.bounds.drop j).map (mT ts)) s.2 s.1)=res/\c+j<=s.2/\s.2<=400/\s.1.length=j:=a;have ch:=a.2.1;have cl:=a.2.2.1;have hl:=a.2.2.2;have a:=a.1;refine ah (fun h=>?_) (fun ae=>?_)
  ·have h:j<x.bounds.length:=by rw[ay] at h;omega
   refine aX h fun b hb bv bc=>?_;rw[bc,aaX,bd] at a;refine BG (by omega) (show x.bounds[((j:Int)).toNat]?=some b from hb) ?_;refine aY (bl ts b.param) rfl fun _=>?_;refine BF (fun q3=>?_) (fun q3=>?_)
   ·rw[an] at q3;have q4:=eM.1 q3;refine ul (gO (l:=ts) (k:=b.param.toNat) (by omega)) fun y hy=>?_;refine Vr q4.1 hy ?_;have eg:mT ts b=⟨b.trait,y⟩:=by
     unfold mT;rw[q3];rw[eu rfl,hy];rfl
    rw[eg] at a;have hq:=hf s.2 ⟨b.trait,y⟩ (by omega) (by omega);cases hr:f s.2 ⟨b.trait,y⟩ with
    | mk r0 m =>
     rw[hr] at hq a;cases r0 with
     | error e =>
      have w:CallsTS P 77 (Aj p o ⟨b.trait,y⟩) (PB p o s.2 gs) (fun _ _=>False) (fun Mo v=>Mo=PB p o m gs/\v=zE e):=CallsTS.imp hq.1 (fun Mo v ⟨r,u,q,_⟩=>by cases q) (fun Mo v ⟨e',u,q,q1,q2⟩=>by cases q;exact⟨q1,q2⟩);refine HU [1000,1001,1002,1003] w rfl rfl rfl rfl fun v Mo q=>⟨trivial,PB p o m gs,?_,e,m,a.symm,rfl,q.2⟩;rw[q.1];rfl
     | ok r =>
      have w:CallsTS P 77 (Aj p o ⟨b.trait,y⟩) (PB p o s.2 gs) (aU (PB p o m gs) (.agg [.bool r.assumed,IC r.index,.sl (r.types.map aI),.sl (r.proofs.map iL)])) (fun _ _=>False):=CallsTS.imp hq.1 (fun Mo v ⟨r',u,q,q1,q2⟩=>by cases q;exact⟨q1,by rw[q2,js]⟩) (fun Mo v ⟨e',u,q,_⟩=>by cases q);have bm:=hq.2 r m rfl;refine HT [1000,1001,1002,1003] w rfl rfl rfl rfl rfl (fun v Mo q=>q.elim) fun _ _=>?_;refine rV j rfl (by rw[vz];exact hl) (by decide) (by omega) ?_;refine Fit.aaf (by omega) (by omega) ?_;exact⟨(j+1,(s.1++[r],m)),⟨h,a,(by show c+((j+1:Nat):Int)<=m;omega),(by show m<=400;omega),by simp[hl]⟩,⟨bM,trivial⟩,⟨.inl ⟨_,rfl,.inl ⟨rfl,rfl⟩⟩,.inl ⟨_,rfl,.inl ⟨rfl,rfl⟩⟩,.inl ⟨_,rfl,.inl ⟨rfl,rfl⟩⟩,.inl ⟨_,rfl,.inl ⟨Ei (EP s.1 r),rfl⟩⟩,.inl ⟨_,rfl,.inl ⟨rfl,rfl⟩⟩,.inl ⟨_,rfl,.inl ⟨rfl,rfl⟩⟩,.inl ⟨_,rfl,.inl ⟨rfl,rfl⟩⟩,.inl ⟨_,rfl,.inl ⟨rfl,rfl⟩⟩,trivial⟩,bN h⟩
   ·rw[an] at q3;have eg:mT ts b=⟨b.trait,zT⟩:=by
     unfold mT;rw[q3];rw[fo aa7]
    rw[eg] at a;have hq:=hf s.2 ⟨b.trait,zT⟩ (by omega) (by omega);cases hr:f s.2 ⟨b.trait,zT⟩ with
    | mk r0 m =>
     rw[hr] at hq a;cases r0 with
     | error e =>
      have w:CallsTS P 77 (Aj p o ⟨b.trait,zT⟩) (PB p o s.2 gs) (fun _ _=>False) (fun Mo v=>Mo=PB p o m gs/\v=zE e):=CallsTS.imp hq.1 (fun Mo v ⟨r,u,q,_⟩=>by cases q) (fun Mo v ⟨e',u,q,q1,q2⟩=>by cases q;exact⟨q1,q2⟩);refine HU [1000,1001,1002,1003] w rfl rfl rfl rfl fun v Mo q=>⟨trivial,PB p o m gs,?_,e,m,a.symm,rfl,q.2⟩;rw[q.1];rfl
     | ok r =>
      have w:CallsTS P 77 (Aj p o ⟨b.trait,zT⟩) (PB p o s.2 gs) (aU (PB p o m gs) (.agg [.bool r.assumed,IC r.index,.sl (r.types.map aI),.sl (r.proofs.map iL)])) (fun _ _=>False):=CallsTS.imp hq.1 (fun Mo v ⟨r',u,q,q1,q2⟩=>by cases q;exact⟨q1,by rw[q2,js]⟩) (fun Mo v ⟨e',u,q,_⟩=>by cases q);have bm:=hq.2 r m rfl;refine HT [1000,1001,1002,1003] w rfl rfl rfl rfl rfl (fun v Mo q=>q.elim) fun _ _=>?_;refine rV j rfl (by rw[vz];exact hl) (by decide) (by omega) ?_;refine Fit.aaf (by omega) (by omega) ?_;exact⟨(j+1,(s.1++[r],m)),⟨h,a,(by show c+((j+1:Nat):Int)<=m;omega),(by show m<=400;omega),by simp[hl]⟩,⟨bM,trivial⟩,⟨.inl ⟨_,rfl,.inl ⟨rfl,rfl⟩⟩,.inl ⟨_,rfl,.inl ⟨rfl,rfl⟩⟩,.inl ⟨_,rfl,.inl ⟨rfl,rfl⟩⟩,.inl ⟨_,rfl,.inl ⟨Ei (EP s.1 r),rfl⟩⟩,.inl ⟨_,rfl,.inl ⟨rfl,rfl⟩⟩,.inl ⟨_,rfl,.inl ⟨rfl,rfl⟩⟩,.inl ⟨_,rfl,.inl ⟨rfl,rfl⟩⟩,.inl ⟨_,rfl,.inl ⟨rfl,rfl⟩⟩,trivial⟩,bN h⟩
  ·have ae:¬j<x.bounds.length:=by rw[ay] at ae;omega
   rw[bQ ae,abC,bt] at a;refine⟨rfl,.mk false k ts s.1,s.2,a.symm,?_⟩;rw[js];rfl
 ·have aw:¬k<p.impls.length:=by rw[az] at aw;omega
  rw[bQ aw,bj] at d;exact⟨zE 9,rfl,rfl,trivial,_,rfl,9,c,hn d.symm,rfl,rfl⟩
end Go.Fr.Try
namespace Go.Fr
open Go Go.RowKit
section
variable {P:Program}
theorem C6 {f:FuncId}{fn:Func}{c:Code}{sc:au}{A:cW}{rs:List RV}{F:aA}{Lin:List Own}{R:aA->List Own->Value->Prop}(a:List SV)
  (hf:P.funcs[f]?=some fn) (hb:fn.body=some c) (hl:low P A c=some sc) (hn:fn.ntmps=A.n) (x:mV P fn.results.toList=some rs) (ae:a.length<=A.n)
  (m:∀v∈a,(∀k off,v=.own k off->∃g ty cs,(inp Lin).get k=some (.box g ty cs))/\(∀ad j,v=.el ad j->ad≠none))
  (h:jz P sc (fun _ _ _ _=>False) (fun F' L' ρ'=>nH L' ρ' rs fun d=>JF F' L' (gb d) R) (fun F' L' ρ'=>nH L' ρ' rs fun d=>JF F' L' (gb d) R) F (inp Lin) (Dh 0 a)) (u:FrameMode) (w:World) (hs:St F (inp Lin) w) :
  CallsD P f (a.map (conc (inp Lin))).toArray u w fun e u' w'=>u'=u/\∃v F' Lo,e=.returned v/\St F' (inp Lo) w'/\Step F (inp Lin) w F' (inp Lo) w'/\R F' Lo v:=by
 refine callsD_of_wp hf hb ?_;have he:aD (inp Lin) (Dh 0 a) {tmps:=(a.map (conc (inp Lin))).toArray++Array.replicate (fn.ntmps-(a.map (conc (inp Lin))).toArray.size) undef,defers:=[]}:=by
  have s:∀t,Dh 0 a t=.v undef\/Dh 0 a t∈a:=by
   intro t;rw[xW];simp only[aa8,abj,Nat.sub_zero];cases e:a[t]? with
   | none=>exact .inl rfl
   | some v=>exact .inr (aaW e)
  refine⟨fun t=>?_,fun t k off e=>?_,fun t ad j e=>?_⟩
  ·rw[xW];simp only[aa8,abj,Nat.sub_zero,aa6];cases e:a[t]? with
   | some v =>
    have y:t<a.length:=(aaR.1 e).1;rw[Array.getElem?_append_left (by simpa using y)];simp[e]
   | none =>
    have ac:a.length<=t:=aby.1 e;rw[Array.getElem?_append_right (by simpa using ac)];simp only[Array.getElem?_replicate,Option.getD_none,conc];split<;>rfl
  ·rcases s t with h1 | h1
   ·rw[h1] at e;cases e
   ·exact(m _ h1).1 k off e
  ·rcases s t with h1 | h1
   ·rw[h1] at e;cases e
   ·exact(m _ h1).2 ad j e
 refine wp_mono (qA c hl hs he (by simp[hn];omega) h) ?_;intro e a' w' q;have fin:∀{a0:Act},a0.defers=[]->eJ A.n F (inp Lin) w a0 (dQ c) (fun F' L' ρ'=>nH L' ρ' rs fun d=>JF F' L' (gb d) R) a' w'->a'.defers=[]/\∃v,(results fn a'.tmps).run P w'=.ok v w' /\
   ∃v' F' Lo,Ending.returned v=.returned v'/\St F' (inp Lo) w'/\Step F (inp Lin) w F' (inp Lo) w'/\R F' Lo v':=by
  rintro a0 ab ⟨F',L',ρ',g1,g2,g3,g4,o,g6,z⟩;obtain⟨d,hm,⟨ko,Lo,k1,k2,k3⟩⟩:=nR g1 g2 x z;refine⟨g4.trans ab,gb d,?_,gb d,F',Lo,rfl,g1.handed k1 k2,?_,k3⟩
  ·rw[oS];rw[Array.mapM_eq_mapM_toList];simp only[Sem.run_bind,Sem.run_map];rw[hm];simp only[Result.andThen_ok,Sem.run_pure];congr 1
   match d with
   | []=>rfl
   | [t]=>rfl
   | t::u::r =>
    simp only[gb];rw[dif_neg (by simp)]
  ·obtain⟨e1,e2⟩:=cE k1;refine⟨o.le,o.os,o.tape,o.output,o.size,o.same,o.frz,fun b hb=>o.own b ?_⟩;obtain⟨j,p,e,hb⟩:=hb;rw[aH] at e;split at e
   case isFalse=>cases e
   have y:j-1000<Lo.length:=(aaR.1 e).1;have hk:ko[j-1000]?=some (ko[j-1000]'(by omega)):=aaO (by omega);exact⟨_,p,by rw[e2 _ _ hk];exact e,hb⟩
 cases e with
 | normal=>exact fin rfl q
 | ret=>exact fin rfl q
 | exit j=>obtain⟨F',L',ρ',_,_,_,_,_,_,h⟩:=q;exact h.elim
 | goto l=>exact q.elim
 | panic c=>exact(noPan q).elim
 | outgrown=>exact q.elim
end
theorem St.aaB {F:aA}{L1 L2:Loc}{w:World}(b:St F L1 w) (h:∀k o,L2.get k=some o->∃a,L1.get k=some a/\a.blk=o.blk/\o.ok w):St F L2 w :=
 ⟨b.frz,fun k o e=>let⟨_,_,_,h3⟩:=h k o e;h3,fun k o g e c=>let⟨a,h1,h2,_⟩:=h k o e;b.off k a g h1 (h2.trans c),
  fun k f o o' g e j c d=>let⟨a,h1,h2,_⟩:=h k o e;let⟨o2,h3,h4,_⟩:=h f o' j;b.sep k f a o2 g h1 h3 (h2.trans c) (h4.trans d),b.glob⟩
theorem Step.aaB {F F':aA}{L L1 L2:Loc}{w w':World}(a:Step F L w F' L1 w') (h:∀k o,L2.get k=some o->∃c,L1.get k=some c/\c.blk=o.blk):Step F L w F' L2 w' :=
 ⟨a.le,a.os,a.tape,a.output,a.size,a.same,a.frz,fun b ⟨k,o,e,hb⟩=>let⟨c,h1,h2⟩:=h k o e;a.own b ⟨k,c,h1,h2.trans hb⟩⟩
end Go.Fr
namespace Go.Fr.Try
open Go Go.RowKit Go.Proofs Go.Fr Go.Fr.T Go.Fr.Api
theorem S6:∃c,Try.f83.body=some c/\low Try.prog YH c=some c83:=⟨Try.f83.body.getD .skip,by kernel_rfl,by kernel_rfl⟩
theorem Vt {F:aA}{b:Nat}{a:Addr}{n c:Nat}{xs:List Value}(p:(n:Int)+1<=9223372036854775807) (l:n+1<=c) (o:a.off=0) (u:FrameMode) (w:World)
  (h:St F (inp [.box b 107 [.slice (some a) (n+1) c],.row (.slice (some a) (n+1) c) 110 4 (n+1) xs]) w) :
  CallsD P 83 #[.pointer (some ⟨b,0,none⟩)] u w fun e j w'=>j=u/\∃v F' Lo,e=.returned v/\St F' (inp Lo) w'/\Step F (inp [.box b 107 [.slice (some a) (n+1) c],.row (.slice (some a) (n+1) c) 110 4 (n+1) xs]) w F' (inp Lo) w' /\
   (Lo=[.box b 107 [.slice (some a) n c],.row (.slice (some a) (n+1) c) 110 4 (n+1) xs]/\v=.tuple #[]):=by
 obtain⟨m,hb,f⟩:=S6;refine C6 (P:=P) (A:=YH) (rs:=[]) (R:=fun F' Lo v=>Lo=[.box b 107 [.slice (some a) n c],.row (.slice (some a) (n+1) c) 110 4 (n+1) xs]/\v=.tuple #[]) [.own 1000 0] Try.func83 hb f (by kernel_rfl) (by kernel_rfl) (by decide) ?_ ?_ u w h
 ·intro v d;rcases aaT.1 d with rfl | d
  ·exact⟨fun k off e=>by injection e with e1 e2;subst e1;exact⟨_,_,_,rfl⟩,fun _ _ e=>by cases e⟩
  ·cases d
 refine Fit.aaf (by omega) (by omega) ?_;refine⟨by omega,by omega,by omega,?_⟩;have e:r9 (some a) c (0:Int).toNat (((n+1:Nat):Int)-1).toNat 4=.slice (some a) n c:=by
  unfold r9;rw[fo (by show¬c=0;omega),show(((n+1:Nat):Int)-1).toNat=n by omega];rfl
 refine⟨[1000,1001],_,rfl,by decide,?_,rfl⟩;rw[<-e];rfl
theorem wk {F:aA}{sz:Nat}:∀{l m:List (List C)}{xs:List Value},aP F sz (l++m) xs->aP F sz l (xs.take (l.length*sz))
 | [],m,xs,_=>by simp[aP]
 | e::l,m,xs,h=>by
  rw[aa1] at h;simp only[aP] at h ⊢;obtain⟨b,a,rfl,h1,d,c,f⟩:=h;refine⟨b,a.take (l.length*sz),?_,h1,d,c,wk f⟩;rw[aa5,Nat.add_mul,Nat.one_mul,Nat.add_comm (l.length*sz),List.take_append,abA (by omega),show sz+l.length*sz-b.length=l.length*sz by omega]
theorem S7 {F:aA}{e f:Own}{k l:TO}(h0:cK F (inp [e,f]) k e) (h1:cK F (inp [e,f]) l f):bS F (inp [e,f]) (cJ [k,l]):=by
 intro j;have c:∀{m:Type}(a b:m) (h:1000<=j),[a,b][j-1000]?=if j=1000 then some a else if j=1001 then some b else none:=fun a b h=>by
  by_cases d:j=1000
  ·rw[eu d,show j-1000=0 by omega];rfl
  rw[fo d]
  by_cases c:j=1001
  ·rw[eu c,show j-1000=1 by omega];rfl
  rw[fo c];exact abl (by simp;omega)
 rw[aH,cA]
 by_cases h:1000<=j
 ·rw[eu h,eu h,c _ _ h,c _ _ h]
  by_cases d:j=1000
  ·rw[eu d,eu d];exact h0
  rw[fo d,fo d]
  by_cases c:j=1001
  ·rw[eu c,eu c];exact h1
  rw[fo c,fo c];trivial
 ·rw[fo h,fo h];trivial
theorem Rj {F:aA}{p:Prog}{gs:List cB}{g:cB}{Li:List Own}{vs:List Value}(hg:gs.length<=400) (hl:Li.length=2) (y:bS F (inp Li) (cJ [.box 107 [.rw 1001],Ai (gs++[g])])) (ha:aB F (inp Li) [.own 1000 0] vs) (u:FrameMode) (w:World) (hs:St F (inp Li) w) :
  CallsD P 83 vs.toArray u w fun e u' w'=>u'=u/\∃v F' Lo,e=.returned v/\St F' (inp Lo) w'/\Step F (inp Li) w F' (inp Lo) w'/\gP Li (aU [.box 107 [.rw 1001],Ai gs] (.tup [])) F' Lo v:=by
 match Li,hl with
 | [o0,m],_ =>
  have q0:=y 1000;have q1:=y 1001;have q0:cK F (inp [o0,m]) (.box 107 [.rw 1001]) o0:=q0;have q1:cK F (inp [o0,m]) (Ai (gs++[g])) m:=q1;cases o0 with
  | row=>exact q0.elim
  | box b0 t0 c0 =>
  cases m with
  | box=>exact q1.elim
  | row v1 t1 s1 n1 j =>
  obtain⟨x,z⟩:=q0;obtain⟨rfl,rfl,ao,⟨bo,a,cap,cc,bp⟩,aa⟩:=q1;simp only[aB,Rel] at z;obtain⟨v,ax,rfl,⟨a',c,t',aE,n',am,rfl,d⟩,rfl⟩:=z;have d:some (Own.row v1 110 4 n1 j)=some (.row (.slice a' n' c) t' aE n' am):=d;injection d with d
  injection d with n e2 e3 e4 e5
  subst n e2 e3 e4 e5;have hn:n1=gs.length+1:=by rw[ao];simp
  subst hn;have ht:t0=107:=by
   obtain⟨_,h | h,_⟩:=x
   ·exact h.symm
   ·omega
  subst ht;have r:w.ownsRow 0 110 4 (.slice a' (gs.length+1) c) (gs.length+1) j:=hs.own 1001 _ rfl;obtain⟨cd,av⟩:=r;rcases av with⟨hz,_⟩ | ⟨l,cp,cl,ar,bu,bv,ag,bm,ch,bz⟩
  ·cases hz
  injection ar with w1 w2 w3
  subst w1 w3;have al:vs=[.pointer (some ⟨b0,0,none⟩)]:=by
   simp only[aB,Rel] at ha;obtain⟨v,ax,rfl,⟨g',t',cs',d,rfl⟩,rfl⟩:=ha;have d:some (Own.box b0 107 [Value.slice (some ⟨l,0,none⟩) (gs.length+1) c])=some (.box g' t' cs'):=d;injection d with d
   injection d with n
   subst n;rfl
  subst al;refine(Vt (by omega) ag rfl u w hs).mono ?_;rintro e u' w' ⟨hu,v,F',Lo,he,g1,g2,rfl,rfl⟩;have an:j=j.take (gs.length*4)++j.drop (gs.length*4):=(List.take_append_drop _ _).symm;have q:w'.ownsRow 0 110 4 (.slice (some ⟨l,0,none⟩) gs.length c) gs.length (j.take (gs.length*4)):=by
   have h1:=g1.own 1001 _ (show _=some (Own.row (.slice (some ⟨l,0,none⟩) (gs.length+1) c) 110 4 (gs.length+1) j) from rfl);have h1:w'.ownsRow 0 110 4 (.slice (some ⟨l,0,none⟩) (gs.length+1) c) (gs.length+1) j:=h1;rw[an] at h1;exact ownsRow_pop (by rw[abJ];omega) h1
  have s:∀k o,(inp [.box b0 107 [.slice (some ⟨l,0,none⟩) gs.length c],.row (.slice (some ⟨l,0,none⟩) gs.length c) 110 4 gs.length (j.take (gs.length*4))]).get k=some o ->
    ∃m,(inp [.box b0 107 [.slice (some ⟨l,0,none⟩) gs.length c],.row (.slice (some ⟨l,0,none⟩) (gs.length+1) c) 110 4 (gs.length+1) j]).get k=some m/\m.blk=o.blk/\o.ok w':=by
   intro k o f;rw[aH] at f;split at f
   case isFalse=>cases f
   rename_i cf
   by_cases e0:k=1000
   ·subst e0;injection f with f
    subst f;exact⟨_,rfl,rfl,g1.own 1000 _ rfl⟩
   by_cases n:k=1001
   ·subst n;injection f with f
    subst f;exact⟨_,rfl,rfl,q⟩
   rw[abl (by simp;omega)] at f;cases f
  refine⟨hu,.tuple #[],F',_,he,g1.aaB s,g2.aaB (fun k o h=>let⟨m,a,b,_⟩:=s k o h;⟨m,a,b⟩),[.box 107 [.rw 1001],Ai gs],.tup [],rfl,S7 ⟨x,?_⟩ ⟨rfl,rfl,by simp,⟨by omega,some ⟨l,0,none⟩,c,rfl,fun h=>by cases h⟩,?_⟩,by simp only[Rel,aB];exact⟨[],rfl,rfl⟩,fun i g t cs hi=>?_,rfl,rfl⟩
  ·simp only[aB,Rel];exact⟨_,_,rfl,⟨_,_,_,_,_,_,rfl,rfl⟩,rfl⟩
  ·have:=aa;rw[abB] at this;have h2:=wk this;rw[vz] at h2;exact h2.mono g2.le
  ·cases i with
   | zero =>
    injection hi with hi
    injection hi with n e2 e3
    subst n e2;exact⟨_,rfl⟩
   | succ i =>
    cases i with
    | zero=>injection hi with hi;cases hi
    | succ i=>simp at hi
end Go.Fr.Try
