/- Part of the proofs of the statements of this seat. -/
import Derived.Test.YthfdbepkalpplaaTrP1G
import Derived.Test.YthfdbepkalpplaaUnH1G
import Derived.Test.YthfdbepkalpplaaTrT4G
import Derived.WalkSmall
set_option maxRecDepth 10000
set_option linter.unusedVariables false
set_option linter.unusedSimpArgs false
namespace Go.Fr.Try
open Go Go.RowKit Go.Proofs Go.Fr Go.Fr.T Go.Fr.Api
noncomputable def uh:Code:=Try.f77.body.getD .skip
noncomputable def XK:Code:=vT uh
noncomputable def XL:Code:=vT (fE uh)
noncomputable def XM:Code:=vT (fE (fE uh))
noncomputable def XO:Code:=vT (fE (fE (fE uh)))
noncomputable def XP:Code:=vT (fE (fE (fE (fE uh))))
noncomputable def XQ:Code:=vT (fE (fE (fE (fE (fE uh)))))
noncomputable def XR:Code:=vT (fE (fE (fE (fE (fE (fE uh))))))
noncomputable def XS:Code:=fE (fE (fE (fE (fE (fE (fE (fE uh)))))))
noncomputable def WV:Code:=vT (fE (fE (fE (fE (fE (fE (fE uh)))))))
theorem D8:Try.f77.body=some (XK.seq (XL.seq (XM.seq (XO.seq (XP.seq (XQ.seq (XR.seq (WV.seq XS)))))))):=by kernel_rfl
def OP:cT:={n:=97,own:=[6],frz:=[(26,0,[91])],ord:=[(24,[0,1,2,3,4,5,6,7,8,9,10,11],[[],[0],[],[],[3],[],[3,4,5],[2,3,4,5,6],[2,3,4,5,6,7],[0,1,2,3,4,5,6,7,8],[0,1,2,3,4,5,6,7,8,9],[0,1,2,3,4,5,6,7,8,9,10]])],pan:=[(3,1),(5,1),(28,1)],px:=[89],bk:=[(82,13)]}
def XT:ax:=(.reg [.op (some 6) (.boxF 110 (.t 0)) none,
  .op (some 7) (.alloc 64 [(.bool false),(.int .i64 0),(.slice none 0 0),(.slice none 0 0)]) none])
def WW:ax:=(.reg [.op (some 17) (.load false 1 (.t 1)) none,
  .op (some 18) (.bin .add (.t 17) (.c (.int .i64 1))) none,
  .op none (.store 1 (.t 1) (.t 18)) none])
def UC:ax:=(.seq (.reg [.op (some 19) (.load false 1 (.t 1)) none,
  .op (some 20) (.bin .gtr (.t 19) (.c (.int .i64 400))) none])
 (.cond (.t 20)
 (.reg [.op (some 21) (.mkif 45 (.c (.int .i64 2))) none,
   .pc none (.pan (.t 21)) none])
 .skip))
def T9:ax:=(.seq (.reg [.op (some 22) (.load false 1 (.t 2)) none,
  .op (some 23) (.mkfn 79 [] [(.t 6)]) none,
  .op (some 24) (.call 78 [(.t 22),(.t 23)]) none])
 (.cond (.t 24)
 (.reg [.op (some 25) (.mkif 45 (.c (.int .i64 15))) none,
   .pc none (.pan (.t 25)) none])
 .skip))
def R3:ax:=(.reg [.op (some 26) (.load false 1 (.t 3)) none,
  .op (some 27) (.mkfn 82 [] [(.t 6)]) none,
  .op (some 28) (.call 81 [(.t 26),(.t 27)]) none,
  .op (some 8) (.mov (.t 28)) none])
def Rz:ax:=(.seq (.reg [.op (some 29) (.mov (.t 8)) none,
  .op (some 30) (.bin .geq (.t 29) (.c (.int .i64 0))) none])
 (.cond (.t 30)
 (.seq (.reg [.op (some 31) (.mov (.t 8)) none,
   .op (some 32) (.build [(.bool false),(.int .i64 0),(.slice none 0 0),(.slice none 0 0)] [(0,1,(.c (.bool true))),(1,1,(.t 31))]) none,
   .op none (.store 4 (.t 7) (.t 32)) none])
  .ret)
 .skip))
def P0:ax:=(.reg [.op (some 33) (.load false 1 (.t 2)) none,
  .op (some 34) (.load true 4 (.t 6)) none,
  .op (some 35) (.mkF 110 1 4 [(.t 34)]) none,
  .op (some 36) (.app 110 4 48 [(.int .i64 0),(.int .i64 0),(.int .i64 0),(.slice none 0 0)] (.t 33) (.t 35)) none,
  .op none (.store 1 (.t 2) (.t 36)) none])
def WX:ax:=(.seq (.seq (.reg [.op (some 38) (.fieldA 5 (.t 4)) none,
  .op (some 39) (.load false 1 (.t 38)) none,
  .op (some 40) (.len (.t 39)) none,
  .op (some 41) (.mov (.c (.int .i64 0))) none])
 (.block 0
 (.loop [42,43,44,45,10,9,46,47,48,49,50,52,53,54,55,56,57,58,51,59,60,11,12,61,62,63,64,65,13,66,67,68,69,70,71,72,15,16,73,74,75,76,77,78,79,80,81,82,83,84,85,86,87,88,89,90,91,92,93,69,94,95,41]
  (.seq (.reg [.op (some 42) (.bin .lss (.t 41) (.t 40)) none])
   (.seq (.cond (.t 42)
   .skip
   (.exit 0))
   (.seq (.block 1
   (.seq (.reg [.op (some 43) (.mov (.t 41)) none,
     .op (some 44) (.idxA 8 (.t 39) (.t 41)) none,
     .op (some 45) (.load true 8 (.t 44)) none,
     .op (some 10) (.alloc 56 [(.int .i64 0),(.int .i64 0),(.int .i64 0),(.slice none 0 0),(.int .i64 0),(.int .i64 0),(.slice none 0 0),(.int .i64 0)]) none,
     .op (some 9) (.mov (.t 43)) none,
     .op none (.store 8 (.t 10) (.t 45)) none])
    (.seq (.seq (.reg [.op (some 46) (.fieldA 0 (.t 10)) none,
     .op (some 47) (.load false 1 (.t 46)) none,
     .op (some 48) (.fieldA 0 (.t 6)) none,
     .op (some 49) (.load false 1 (.t 48)) none,
     .op (some 50) (.bin .neq (.t 47) (.t 49)) none])
    (.cond (.t 50)
    (.exit 1)
    .skip))
    (.seq (.reg [.op (some 52) (.fieldA 4 (.t 10)) none,
     .op (some 53) (.load true 3 (.t 52)) none,
     .op (some 54) (.fieldA 1 (.t 6)) none,
     .op (some 55) (.load true 3 (.t 54)) none,
     .op (some 56) (.fieldA 2 (.t 10)) none,
     .op (some 57) (.load false 1 (.t 56)) none,
     .op (some 58) (.call 24 [(.t 53),(.t 55),(.t 57)]) none,
     .op (some 51) (.mov (.t 58)) none,
     .op (some 59) (.extr (.t 51) 0) none,
     .op (some 60) (.extr (.t 51) 1) none,
     .op (some 11) (.mov (.t 59)) none,
     .op (some 12) (.mov (.t 60)) none])
    (.seq (.seq (.reg [.op (some 61) (.mov (.t 12)) none,
     .op (some 62) (.un .not (.t 61)) none])
    (.cond (.t 62)
    (.exit 1)
    .skip))
    (.seq (.reg [.op (some 63) (.mov (.t 9)) none,
     .op (some 64) (.mov (.t 11)) none,
     .op (some 65) (.build [(.bool false),(.int .i64 0),(.slice none 0 0),(.slice none 0 0)] [(1,1,(.t 63)),(2,1,(.t 64))]) none,
     .op (some 13) (.alloc 64 [(.bool false),(.int .i64 0),(.slice none 0 0),(.slice none 0 0)]) none,
     .op none (.store 4 (.t 13) (.t 65)) none])
    (.seq (.seq (.reg [.op (some 66) (.fieldA 3 (.t 10)) none,
     .op (some 67) (.load false 1 (.t 66)) none,
     .op (some 68) (.len (.t 67)) none,
     .op (some 69) (.mov (.c (.int .i64 0))) none])
    (.block 2
    (.loop [70,71,72,15,16,73,74,75,76,77,78,79,80,81,82,83,84,85,86,87,88,89,90,91,92,93,69]
     (.seq (.reg [.op (some 70) (.bin .lss (.t 69) (.t 68)) none])
      (.seq (.cond (.t 70)
      .skip
      (.exit 2))
      (.seq (.block 3
      (.seq (.reg [.op (some 71) (.idxA 2 (.t 67) (.t 69)) none,
        .op (some 72) (.load true 2 (.t 71)) none,
        .op (some 15) (.alloc 72 [(.int .i64 0),(.int .i64 0)]) none,
        .op none (.store 2 (.t 15) (.t 72)) none])
       (.seq (.reg [.op (some 16) (.alloc 32 [(.int .i64 0),(.int .i64 0),(.slice none 0 0)]) none])
       (.seq (.seq (.reg [.op (some 73) (.mov (.t 11)) none,
        .op (some 74) (.fieldA 0 (.t 15)) none,
        .op (some 75) (.load false 1 (.t 74)) none,
        .op (some 76) (.call 84 [(.t 73),(.t 75)]) none])
       (.cond (.t 76)
       (.reg [.op (some 77) (.mov (.t 11)) none,
         .op (some 78) (.fieldA 0 (.t 15)) none,
         .op (some 79) (.load false 1 (.t 78)) none,
         .op (some 80) (.idxA 3 (.t 77) (.t 79)) none,
         .op (some 81) (.load true 3 (.t 80)) none,
         .op none (.store 3 (.t 16) (.t 81)) none])
       .skip))
       (.regX [.op (some 82) (.fieldA 3 (.t 13)) none,
        .op (some 83) (.loadK 13 false 1 (.t 82)) none,
        .op (some 84) (.loadD false 1 (.t 5)) none,
        .op (some 85) (.fieldA 1 (.t 15)) none,
        .op (some 86) (.loadD false 1 (.t 85)) none,
        .op (some 87) (.loadD true 3 (.t 16)) none,
        .op (some 88) (.build [(.int .i64 0),(.int .i64 0),(.int .i64 0),(.slice none 0 0)] [(0,1,(.t 86)),(1,3,(.t 87))]) none,
        .pc (some 89) (.callV (.t 84) [(.t 88)]) none,
        .op (some 90) (.mkFD 64 1 4 [(.t 89)]) none,
        .op (some 91) (.appD 64 4 64 [(.bool false),(.int .i64 0),(.slice none 0 0),(.slice none 0 0)] (.t 83) (.t 90)) none,
        .op (some 92) (.fieldA 3 (.t 13)) none,
        .op none (.storeD 1 (.t 92) (.t 91)) none])))))
      (.reg [.op (some 93) (.bin .add (.t 69) (.c (.int .i64 1))) none,
       .op (some 69) (.mov (.t 93)) none])))))))
    (.seq (.reg [.frz 91,
     .op (some 94) (.load true 4 (.t 13)) none,
     .op none (.store 4 (.t 7) (.t 94)) none])
    .ret))))))))
   (.reg [.op (some 95) (.bin .add (.t 41) (.c (.int .i64 1))) none,
    .op (some 41) (.mov (.t 95)) none])))))))
 (.reg [.op (some 96) (.mkif 45 (.c (.int .i64 9))) none,
  .pc none (.pan (.t 96)) none]))
theorem Ua:low Try.prog OP XK=some XT:=by kernel_rfl
theorem Ub:low Try.prog OP XL=some WW:=by kernel_rfl
theorem Uc:low Try.prog OP XM=some UC:=by kernel_rfl
theorem Ud:low Try.prog OP XO=some T9:=by kernel_rfl
theorem Ue:low Try.prog OP XP=some R3:=by kernel_rfl
theorem Uf:low Try.prog OP XQ=some Rz:=by kernel_rfl
theorem Ug:low Try.prog OP XR=some P0:=by kernel_rfl
theorem Uh:low Try.prog OP XS=some WX:=by kernel_rfl
def oV (x:Impl) (t:Ty):List Ty×Bool:=if x.params<0\/x.params>4 then([],false) else Cl x.params.toNat x.type t
def AY (g:di):List Impl->Nat->Option (Nat×Impl×List Ty)
 | [],_=>none
 | x::l,k=>if x.trait=g.tr/\(oV x g.t).2=true then some (k,x,(oV x g.t).1) else AY g l (k+1)
def vg (ts:List Ty) (b:bH):di:=⟨b.trait,if dU b.param ts.length then(ts[b.param.toNat]?).getD zT else zT⟩
abbrev sF:=Except Int kX×Int
def kY (f:Int->di->sF):List di->Int->List kX->Except Int (List kX)×Int
 | [],c,a=>(.ok a,c)
 | g::gs,c,a=>match f c g with
  | (.ok r,b)=>kY f gs b (a++[r])
  | (.error e,b)=>(.error e,b)
noncomputable def jr (p:Prog) (b:List bH):Nat->List di->Int->di->sF
 | 0,_,c,_=>(.error 2,c+1)
 | n+1,d,c,g=>if c+1>400 then(.error 2,c+1) else if(d.any fun h=>iq h g)=true then(.error 15,c+1) else
  if bL (nW g) b 0>=0 then(.ok (.mk true (bL (nW g) b 0) [] []),c+1) else
  match AY g p.impls 0 with
  | none=>(.error 9,c+1)
  | some (k,x,ts)=>match kY (jr p b n (d++[g])) (x.bounds.map (vg ts)) (c+1) [] with
   | (.ok ps,a)=>(.ok (.mk false k ts ps),a)
   | (.error e,a)=>(.error e,a)
def yT (e:Int):Value:=.iface 45 (.int .i64 e)
abbrev Ui (p:Prog) (a:List bH):List C:=[.own 1000 0,.own 1001 0,.pt [.sl (a.map bP)] 0,.pt (jT p) 0,.own 1002 0]
abbrev Ln (p:Prog) (a:List bH):C:=.fn 77 [] (Ui p a)
abbrev PB (p:Prog) (a:List bH) (c:Int) (gs:List di):List TO:=[.box 3 [IC c],.box 107 [.rw 1003],.box 108 [Ln p a],zw gs]
abbrev zx (p:Prog) (a:List bH) (g:di):List C:=.agg (jU g)::Ui p a
def RQ (p:Prog) (b:List bH) (gs:List di) (res:sF) (Mo:List TO) (v:C):Prop:=∃r a,res=(.ok r,a)/\Mo=PB p b a gs/\v=.agg (jf r)
def PQ (p:Prog) (b:List bH) (gs:List di) (res:sF) (Mo:List TO) (v:Value):Prop:=∃e a,res=(.error e,a)/\Mo=PB p b a gs/\v=yT e
def RA (p:Prog) (a:List bH) (c:Int) (gs:List di) (g:di) (res:sF):Prop:=CallsTS P 77 (zx p a g) (PB p a c gs) (RQ p a gs res) (PQ p a gs res)
def zy (p:Prog) (a:List bH) (gs:List di) (res:sF) (M':TL) (v:Value):Prop:=∃Mo,M'.sub [1000,1001,1002,1003]=some Mo/\PQ p a gs res Mo v
def MB (p:Prog) (a:List bH) (c:Int) (gs:List di):TL:=[(7,.box 64 [.bool false,IC 0,.nils,.nils]),(1000,.box 3 [IC c]),(1001,.box 107 [.rw 1003]),(1002,.box 108 [Ln p a]),(1003,zw gs)]
def HB (p:Prog) (g:di) (τ:aK):Prop:=τ 1=.own 1000 0/\τ 2=.own 1001 0/\τ 4=.pt (jT p) 0/\τ 5=.own 1002 0/\τ 6=.pt (jU g) 0/\τ 7=.own 7 0
abbrev XU:ax:=.seq XT (.seq WW (.seq UC (.seq T9 (.seq R3 (.seq Rz P0)))))
theorem Iq (gs:List di) (g:di):gs.map jU++[[IC g.tr,IC g.t.kind,IC g.t.id,.sl (g.t.args.map aG)]]=(gs++[g]).map jU:=by rw[abA];rfl
theorem Uj (p:Prog) (a:List bH) (c:Int) (gs:List di) (g:di) (res:sF) (u:0<=c/\c<=400) (v:(gs.length:Int)<=c)
  (h1:c+1>400->res=(.error 2,c+1)) (o:¬c+1>400->(gs.any fun h=>iq h g)=true->res=(.error 15,c+1))
  (l:¬c+1>400->(gs.any fun h=>iq h g)=false->bL (nW g) a 0>=0->res=(.ok (.mk true (bL (nW g) a 0) [] []),c+1)) :
  evalTC P ⟨fun _=>True,[],some (zy p a gs res)⟩ XU (fun _ _ _=>False) (fun L ρ=>gF L ρ [(7,some (true,4))] fun s=>f9 (PB p a c gs) L (gD s) (RQ p a gs res))
   (fun M τ=>(c+1<=400/\(gs.any fun h=>iq h g)=false/\¬bL (nW g) a 0>=0)/\M=MB p a (c+1) (gs++[g])/\HB p g τ) (cD (PB p a c gs)) (jM 0 (zx p a g)):=by
 have d:=t78 gs g (by omega);have e:=OE g.tr g.t a (nW g) fun b _=>t82 g b;have k:=Iq gs g;generalize(gs.any fun h=>iq h g)=an at d o l ⊢;generalize bL (nW g) a 0=ix at e l ⊢;have m:(gs.map jU).length=gs.length:=v5 _;refine Fit.aag (by omega) (by omega) ?_;refine ah (fun q=>?_) (fun j=>?_)
 ·exact⟨yT 2,rfl,rfl,trivial,_,rfl,2,c+1,h1 q,rfl,rfl⟩
 have j:¬c+1>400:=j;refine u9 [1003] d rfl rfl rfl rfl rfl ?_;refine AO (fun f=>?_) (fun f=>?_)
 ·exact⟨yT 15,rfl,rfl,trivial,_,rfl,15,c+1,o j f,rfl,rfl⟩
 refine bf e rfl fun _=>?_;refine ah (fun n=>?_) (fun n=>?_)
 ·exact pu [1000,1001,1002,1003] rfl rfl rfl rfl ⟨_,_,l j f n,rfl,by rw[jK];rfl⟩
 refine rB gs.length rfl m (by decide) (by omega) ?_;exact⟨⟨by omega,f,n⟩,vv (fun r=>([(7,.box 64 [.bool false,IC 0,.nils,.nils]),(1000,.box 3 [IC (c+1)]),(1001,.box 107 [.rw 1003]),(1002,.box 108 [Ln p a]),(1003,.row 110 4 r)]:TL)) k,rfl,rfl,rfl,rfl,rfl,rfl⟩
def XV (m a:TM):Prop:=∀i x,bM m i=some x->bM a i=some x
theorem XV.set {m:TM}{i:Int}{x:Ty}(h:bM m i=none):XV m (eD m i x):=fun j y a=>by
 rw[kP];split
 ·rename_i e;rw[e,h] at a;cases a
 ·exact a
def Fr (l:List Ty) (m:TM):Prop:=∀(i:Int) (x:Ty),bM m i=some x->l[i.toNat]?=some x
theorem D9 {t:Ty}:iI t=true↔1<=t.kind/\t.kind<=5:=by rw[iI,xo,aaZ,aaZ]
theorem RB {ds:List Api.Data}{n:Int}{t:Ty}(h:wz ds n t=true) (d:iI t=true) (b:¬t.kind=5):∀x∈t.args,iI x=true/\wz ds n x=true:=fun x c=>by
 obtain⟨_,_,_,e⟩:=Ci h b;obtain⟨h1,a⟩:=e x c;have:=D9.1 d;exact⟨h1.resolve_right fun q=>by omega,a⟩
theorem yU {ds:List Api.Data}{n f:Int}:∀t:Ty,wz ds n t=true->iI t=true->∃x,fresh n f t=some x:=dJ fun t j h c=>by
 have o:=D9.1 c;rw[mC]
 by_cases a:t.kind=5
 ·obtain⟨h1,m,e⟩:=Ch h a;rw[fL (by rw[e,abJ];omega),fo a];exact⟨_,rfl⟩
 ·rw[fL (by omega),fL a];have d:=RB h c a;obtain⟨l,k⟩:=wA (f:=fresh n f) (l:=t.args) fun x b=>j x b (d x b).2 (d x b).1;rw[k];exact⟨_,rfl⟩
theorem AZ {n f m:Int}(q:0<=f) (o:f+n<=m):∀t x:Ty,fresh n f t=some x->ins m x=true:=dJ (p:=fun t=>∀x,fresh n f t=some x->ins m x=true) fun t c x h=>by
 rw[mC] at h;split at h
 ·cases h
 rename_i j;split at h
 ·injection h with h
  rw[<-h];exact u5 (by omega) (by omega)
 rename_i k;cases a:kV (fresh n f) t.args with
 | none=>rw[a] at h;cases h
 | some l =>
  rw[a] at h;injection h with h
  obtain⟨h1,d⟩:=jq a;rw[<-h,uX];show(if t.kind<1\/9<t.kind then false else if t.kind=9 then _ else l.all (ins m))=true;rw[fL (by omega),fL (by omega),aaY,d];intro y e;obtain⟨z,b,rfl⟩:=abq.1 e;exact c z b _ (h1 z b)
theorem uj {n f:Int}{u ts:List Ty}(m:0<=f) (a:(ts.length:Int)=n) (e:∀i:Nat,i<ts.length->u[f.toNat+i]?=ts[i]?):∀t x:Ty,fresh n f t=some x->gs u x=subst ts t:=dJ (p:=fun t=>∀x,fresh n f t=some x->gs u x=subst ts t) fun t d x h=>by
 rw[mC] at h;split at h
 ·cases h
 rename_i k;split at h
 ·rename_i b;injection h with h
  rw[<-h,mB rfl,subst_eq,fo (by omega)];show(u[(f+t.id).toNat]?).getD _=_;rw[show(f+t.id).toNat=f.toNat+t.id.toNat by omega,e _ (by omega)]
 rename_i b;cases a:kV (fresh n f) t.args with
 | none=>rw[a] at h;cases h
 | some l =>
  rw[a] at h;injection h with h
  obtain⟨h1,j⟩:=jq a;rw[<-h,je (by show¬t.kind=9;omega),subst_eq,fL (fun q=>b q.1)];show Ty.mk t.kind t.id (l.map (gs u))=_;rw[j,abQ];exact vv _ (abU fun y c=>d y c _ (h1 y c))
def comm (a b:Impl):Prop:=∃c d:List Ty,(c.length:Int)=a.params/\(d.length:Int)=b.params/\subst c a.type=subst d b.type/\cn (subst c a.type)<=8/\(∀x∈c,cn x<=8)/\∀x∈d,cn x<=8
theorem A8 {a b:Impl}:comm a b->comm b a:=fun⟨f,h,h1,d,c,j,e,k⟩=>⟨h,f,d,h1,c.symm,c▸j,k,e⟩
structure IV (p:Prog) (x:Impl):Prop where
 tr:0<=x.trait/\x.trait<p.traits.length
 sto:iI x.type=true
 pos:0<=x.params/\x.params<=4
 dp:cn x.type<=8
 fm:wz p.datas x.params x.type=true
 occ:∀k:Nat,(k:Int)<x.params->sD k x.type=true
 bd:∀b∈x.bounds,0<=b.param/\b.param<x.params
theorem js {p:Prog}{x:Impl}(h:ij p x=true):IV p x:=by
 unfold ij at h;simp only[xo,Bool.not_eq_true'] at h;obtain⟨⟨⟨⟨⟨h1,m⟩,f⟩,j⟩,d⟩,l⟩:=h;obtain⟨v1,v2,v3,a⟩:=qq j;refine⟨ig.1 h1,f,⟨v1,v2⟩,v3,a,fun k n=>?_,fun b hb=>?_⟩
 ·have c:((x.params.toNat:Nat):Int)=x.params:=by omega
  have e:=yS p.datas x.params.toNat x.type (List.replicate x.params.toNat false) (by rw[c];exact a) (by rw[abe]) k (by omega);have:=(abX.1 d) _ (aaX e);rw[abV,fo (by omega)] at this;simpa using this
 ·have:=(abX.1 l) b hb;rw[uc,abn,not_or,Bool.not_eq_true',Bool.not_eq_false,Bool.not_eq_true',Bool.not_eq_false] at this;have:=ig.1 this.1;omega
theorem oW {p:Prog}{a b:Impl}(t:IV p a) (hb:IV p b) (w:iN a.type) (ab:iN b.type):GI a b↔a.trait=b.trait/\comm a b:=by
 obtain⟨x,d⟩:=yU (f:=0) a.type t.fm t.sto;obtain⟨y,m⟩:=yU (f:=a.params) b.type hb.fm hb.sto;have a0:=t.pos;have b0:=hb.pos;have k:(zeros (a.params+b.params).toNat).length=(a.params+b.params).toNat:=by rw[zeros,abe]
 have o:∀x∈zeros (a.params+b.params).toNat,cn x<=8:=fun x d=>by rw[(abO.1 d).2];decide
 constructor
 ·rintro⟨h1,_,_,_,_,x',y',r,s,h⟩;refine⟨h1,?_⟩;rw[d] at r;rw[m] at s;injection r with r
  injection s with s
  subst r s;obtain⟨u,aa,l,hu,v⟩:=Ip (by rw[k];omega) o h;rw[k] at aa;have l1:(u.take a.params.toNat).length=a.params.toNat:=by rw[abL];omega
  have l2:(u.drop a.params.toNat).length=b.params.toNat:=by rw[List.length_drop];omega
  have q:=uj (n:=a.params) (f:=0) (u:=u) (ts:=u.take a.params.toNat) (abg _) (by omega) (fun i hi=>by
   rw[abH,fo (by omega)];simp) a.type x d
  have g2:=uj (n:=b.params) (f:=a.params) (u:=u) (ts:=u.drop a.params.toNat) a0.1 (by omega) (fun i hi=>by rw[abw]) b.type y m;exact⟨u.take a.params.toNat,u.drop a.params.toNat,by omega,by omega,by rw[<-q,<-g2,l],by rw[<-q];exact v,fun z c=>hu z (List.take_subset _ _ c),fun z c=>hu z (List.drop_subset _ _ c)⟩
 ·rintro⟨h1,e,j,l1,l2,l,v,d1,d2⟩;refine⟨h1,a0.1,b0.1,a0.2,b0.2,x,y,d,m,?_⟩;have q:=uj (n:=a.params) (f:=0) (u:=e++j) (ts:=e) (abg _) l1 (fun i hi=>by
   rw[abB (by simpa using hi)];simp) a.type x d
  have g2:=uj (n:=b.params) (f:=a.params) (u:=e++j) (ts:=j) a0.1 l2 (fun i hi=>by
   rw[abC (by omega)];congr 1;omega) b.type y m
  obtain⟨dz,oz,c⟩:=Fj (a.params+b.params).toNat 0;refine Io c ?_ (fun z c=>by have:=o z c;omega) (u:=e++j) ⟨by rw[k,abG];omega,fun i x d hk=>?_⟩ (by rw[q,g2,l]) (fun z c=>?_) (by rw[q];exact v)
  ·unfold mT;have r:=(wB a.type x d w).2;have s:=(wB b.type y m ab).2;have q1:=t.dp;have q2:=hb.dp;rw[k,show(((a.params+b.params).toNat:Nat):Int)=a.params+b.params by omega,AZ (abg 0) (show 0+a.params<=a.params+b.params by omega) a.type x d,AZ a0.1 (abg _) b.type y m,aaP (by omega)];rfl
  ·have:=(abO.1 (show x∈List.replicate _ _ from aaX d)).2;rw[this] at hk;exact o5 rfl hk
  ·rcases aaU.1 c with c | c
   ·exact d1 z c
   ·exact d2 z c
theorem Lp {p:Prog}{a b:Impl}(e:IV p a) (hb:IV p b) (c:iN a.type) (d:iN b.type):GI a b↔GI b a:=by
 rw[oW e hb c d,oW hb e d c];exact⟨fun h=>⟨h.1.symm,A8 h.2⟩,fun h=>⟨h.1.symm,A8 h.2⟩⟩
theorem Ls (n:Nat):∀t:Ty,cn (subst (List.replicate n iT) t)<=cn t:=dJ fun t b=>by
 rw[subst_eq];split
 ·rename_i h;rw[abe] at h;rw[abV,fo (by omega)];have:=cK t;show 1<=cn t;omega
 ·rw[cK,cK t];have:ct (t.args.map (subst (List.replicate n iT)))<=ct t.args:=tO fun y c=>by
   obtain⟨x,a,rfl⟩:=abq.1 c;exact abz (b x a) (jI a)
  show ct (t.args.map _)+1<=_;omega
theorem Lu {p:Prog}{a:Impl}(c:IV p a) (b:iN a.type):GI a a:=by
 rw[oW c c b b];have a0:=c.pos;have f:(List.replicate a.params.toNat iT).length=a.params.toNat:=abe;have d:∀x∈List.replicate a.params.toNat iT,cn x<=8:=fun x e=>by rw[(abO.1 e).2];decide
 exact⟨rfl,_,_,by omega,by omega,rfl,abz (Ls _ _) c.dp,d,d⟩
def R4 (out:List Ty) (s:rf):Prop:=out.length=s.1.length/\∀i:Nat,s.2[i]?=some true->out[i]?=s.1[i]?
theorem Ir (out:List Ty):∀(p t:Ty) (s:rf),s.2.length=s.1.length->(ve p t s).1=true->R4 out (ve p t s).2->R4 out s/\subst out p=t:=dJ (p:=fun p=>∀(t:Ty) (s:rf),s.2.length=s.1.length->(ve p t s).1=true->R4 out (ve p t s).2->R4 out s/\subst out p=t) fun p ih t s hl h a=>by
 rw[Cs] at h a
 by_cases r:p.kind=5
 ·rw[fo r] at h a
  by_cases hi:p.id<0\/(s.1.length:Int)<=p.id
  ·rw[fo hi] at h;cases h
  ·rw[fL hi] at h a;have b:out.length=s.1.length:=by
    split at a
    ·exact a.1
    ·have:=a.1;rwa [abu] at this
   rw[subst_eq,fo (by omega)]
   by_cases j:s.2[p.id.toNat]?=some true
   ·rw[fo j] at h a;have h:=Aq h;refine⟨a,?_⟩;rw[a.2 _ j,h];rfl
   ·rw[fL j] at h a;have u:p.id.toNat<s.1.length:=by omega
    refine⟨⟨b,fun i d=>?_⟩,?_⟩
    ·have c:p.id.toNat≠i:=fun e=>j (e▸d);have:=a.2 i (by show(s.2.set _ _)[i]?=_;rw[abN c];exact d);rw[this];show(s.1.set _ _)[i]?=_;rw[abN c]
    ·have:=a.2 p.id.toNat (by show(s.2.set _ _)[p.id.toNat]?=_;rw[abR (by omega)]);rw[this];show((s.1.set _ _)[p.id.toNat]?).getD _=_;rw[abR u];rfl
 ·rw[fL r] at h a
  by_cases v:p.kind≠t.kind\/p.id≠t.id\/p.args.length≠t.args.length
  ·rw[fo v] at h;cases h
  ·rw[fL v] at h a;have hL:∀(l m:List Ty) (s:rf),(∀x∈l,x∈p.args)->l.length=m.length->s.2.length=s.1.length->(D6 l m s).1=true->R4 out (D6 l m s).2->R4 out s/\l.map (subst out)=m:=by
    intro l
    induction l with
    | nil =>
     intro m s _ f _ _ a;cases m with
     | nil=>rw[D6] at a;exact⟨a,rfl⟩;all_goals (intros;contradiction)
     | cons y m=>cases f
    | cons x l n =>
     intro m s w f hs h a;cases m with
     | nil=>cases f
     | cons y m =>
      rw[D6] at h a
      by_cases k:(ve x y s).1=true
      ·rw[fo k] at h a;have b:=Ct x y s;obtain⟨a1,o⟩:=n m (ve x y s).2 (fun z hz=>w z (by simp[hz])) (by simpa using f) (by omega) h a;obtain⟨b1,b2⟩:=ih x (w x (by simp)) y s hs k a1;exact⟨b1,by rw[aaW,o,b2]⟩
      ·rw[fL k] at h;cases h
   obtain⟨a1,o⟩:=hL p.args t.args s (fun _ h=>h) (by omega) hl h a;refine⟨a1,?_⟩;rw[subst_eq,fL (fun q=>r q.1),o];exact Ar (by show p.kind=t.kind;omega) (by show p.id=t.id;omega) rfl
theorem OQ {B:Nat}:∀(p t:Ty) (s:rf),cn t<=B->(∀x∈s.1,cn x<=B)->∀x∈(ve p t s).2.1,cn x<=B:=dJ (p:=fun p=>∀(t:Ty) (s:rf),cn t<=B->(∀x∈s.1,cn x<=B)->∀x∈(ve p t s).2.1,cn x<=B) fun p f t s j a=>by
 rw[Cs];split
 ·split
  ·exact a
  ·split
   ·exact a
   ·intro x b;rcases ab3 b with b | rfl
    ·exact a x b
    ·exact j
 ·split
  ·exact a
  ·have k:∀(l m:List Ty) (s:rf),(∀x∈l,x∈p.args)->(∀x∈m,cn x<=B)->(∀x∈s.1,cn x<=B)->∀x∈(D6 l m s).2.1,cn x<=B:=by
    intro l
    induction l with
    | nil =>
     intro m s _ _ a;rw[D6]
     ·exact a
     ·intros;contradiction
    | cons x l d =>
     intro m s b e a;cases m with
     | nil =>
      rw[D6]
      ·exact a
      ·intros;contradiction
     | cons y m =>
      have h1:=f x (b x (by simp)) y s (e y (by simp)) a;rw[D6];split
      ·exact d m _ (fun z c=>b z (by simp[c])) (fun z c=>e z (by simp[c])) h1
      ·exact h1
   exact k p.args t.args s (fun _ h=>h) (fun x b=>by have:=jI b;have:=cK t;omega) a
theorem A9 {x:Impl}{t:Ty}(h:Cu x t=true) (b:cn t<=8):∃ts,(ts.length:Int)=x.params/\subst ts x.type=t/\∀y∈ts,cn y<=8:=by
 unfold Cu at h;simp only[xo,aaZ] at h;obtain⟨h1,f,a⟩:=h;unfold Rw at a;have c:=Ct x.type t (List.replicate x.params.toNat zT,List.replicate x.params.toNat false);have d:=Ir (ve x.type t (List.replicate x.params.toNat zT,List.replicate x.params.toNat false)).2.1 x.type t (List.replicate x.params.toNat zT,List.replicate x.params.toNat false) (by rw[abe,abe]) a ⟨rfl,fun _ _=>rfl⟩;refine⟨_,?_,d.2,OQ x.type t _ b fun y e=>by rw[(abO.1 e).2];decide⟩;rw[c.1,abe];omega
theorem Ft {p:Prog}{a b:Impl}{t:Ty}(j:IV p a) (hb:IV p b) (d:iN a.type) (f:iN b.type) (c:a.trait=b.trait) (e:cn t<=8) (h1:Cu a t=true) (k:Cu b t=true):GI a b:=by
 obtain⟨m,o,s1,l⟩:=A9 h1 e;obtain⟨h,n,s2,q⟩:=A9 k e;exact(oW j hb d f).2 ⟨c,m,h,o,n,by rw[s1,s2],by rw[s1];exact e,l,q⟩
theorem CallsTS.imp {P:Program}{f:Nat}{args:List C}{Lin:List TO}{R R':List TO->C->Prop}{Pp Pp':List TO->Value->Prop}(h:CallsTS P f args Lin R Pp)
  (z:∀Mo c,R Mo c->R' Mo c) (s:∀Mo v,Pp Mo v->Pp' Mo v):CallsTS P f args Lin R' Pp' :=
 ⟨fun F Li t h1 p y=>let k:=h.out F Li t h1 p y;⟨k.ent,gC.aao,fun w r=>(k.run w r).mono fun e w' q=>by
  rcases q with⟨v,F',Lo,j,a,m,Mo,c,d,b,l,n,o⟩ | ⟨v,ch,F',Lo,j,a,m,u,e5,x,Mo,d,b,l⟩
  ·exact .inl ⟨v,F',Lo,j,a,m,Mo,c,d,b,l,n,z _ _ o⟩
  ·exact .inr ⟨v,ch,F',Lo,j,a,m,u,e5,x,Mo,d,b,s _ _ l⟩⟩⟩
theorem GS (ks:List Nat) {L:TL}{ρ:aK}{ps:Value->Prop}{hb:List (Nat×Nat)}{st:TL->Value->Prop}{Pp:List TO->Value->Prop}{e:List Nat}{f:Nat}{args a:List C}{K:TL->aK->C->Prop}{x:C}{Lin Lin' Lo:List TO}(h:CallsTS P f a Lin' (aT Lo x) Pp) (n:L.sub ks=some Lin)
  (d:(T.aP ks&&pW ks e&&aI Lin ks ks&&ju L ks hb)=true) (j:(args.map fun c=>c.aaj.ren (bh ks 1000))=a) (s:Lin.map (TO.aad (C.ren (bh ks 1000)))=Lin') (l:ks.length=Lo.length)
  (p:∀v Mo,Pp Mo v->ps v/\st (TL.puts [] ks (Mo.map (TO.aad (C.ren (aH ks))))) v)
  (k:Wf x->(∀o∈Lo,o.Wf)->K (((L.aae ks).kills (rowsOf L ks)).puts ks (Lo.map (TO.aad (C.ren (aH ks))))) (dh (rowsOf L ks) ρ) (x.ren (aH ks)).slt):sW P ps hb st e f args L ρ K:=by
 subst j s;simp only[xo] at d;obtain⟨⟨⟨t,r⟩,c3⟩,c4⟩:=d;exact⟨ks,Lin,_,_,n,t,r,c3,c4,h,fun v Mo q _ _=>p v Mo q,fun v Mo ⟨u,w⟩ m b=>by subst u w;exact⟨l,k m b⟩⟩
theorem GU (ks:List Nat) {L:TL}{ρ:aK}{ps:Value->Prop}{hb:List (Nat×Nat)}{st:TL->Value->Prop}{Pp:List TO->Value->Prop}{d:List Nat}{f:Nat}{args a:List C}{K:TL->aK->C->Prop}{Lin Lin':List TO}(h:CallsTS P f a Lin' (fun _ _=>False) Pp) (j:L.sub ks=some Lin)
  (b:(T.aP ks&&pW ks d&&aI Lin ks ks&&ju L ks hb)=true) (e:(args.map fun c=>c.aaj.ren (bh ks 1000))=a) (m:Lin.map (TO.aad (C.ren (bh ks 1000)))=Lin')
  (k:∀v Mo,Pp Mo v->ps v/\st (TL.puts [] ks (Mo.map (TO.aad (C.ren (aH ks))))) v):sW P ps hb st d f args L ρ K:=by
 subst e m;simp only[xo] at b;obtain⟨⟨⟨n,l⟩,c3⟩,c4⟩:=b;exact⟨ks,Lin,_,_,j,n,l,c3,c4,h,fun v Mo q _ _=>k v Mo q,fun v Mo q=>q.elim⟩
theorem WY (x:Impl) (t:Ty):CallsT P 24 [aR x.type,aR t,IC x.params] [] (aT [] (.tup [.sl ((oV x t).1.map aG),.bool (oV x t).2])):=by
 unfold oV
 by_cases h:x.params<0\/x.params>4
 ·rw[fo h];refine af Try.func24 FU rfl fun c _=>?_;refine ah (fun _=>aC rfl rfl) (fun a=>ah (fun _=>aC rfl rfl) (fun b=>o5 h ?_));have a:¬x.params<0:=a;have b:¬x.params>4:=b;omega
 ·rw[fL h];have:=t24 x.type t x.params.toNat (by omega);rw[show((x.params.toNat:Nat):Int)=x.params by omega] at this;exact this
theorem Uk {l:List Ty}{z:Int}{x:Ty}{K:List C->Prop}(h0:0<=z) (a:l[z.toNat]?=some x) (h:K [IC x.kind,IC x.id,.sl (x.args.map aG)]):uE (l.map aG) z 3 K:=yx h0 a h
def eB (p:Prog) (g:di):aK:=bg (some 1) (.own 1000 0) (bg (some 2) (.own 1001 0) (bg (some 4) (.pt (jT p) 0) (bg (some 5) (.own 1002 0) (bg (some 6) (.pt (jU g) 0) (bg (some 7) (.own 7 0) fun _=>.any)))))
def UD (p:Prog) (b:List bH) (gs:List di) (res:sF):TK:=fun M τ=>τ 7=.own 7 0/\∃r a,res=(.ok r,a)/\M.sub [1000,1001,1002,1003,7]=some (PB p b a gs++[.box 64 (jf r)])
def RD (k:Nat) (ts:List Ty):Except Int (List kX)×Int->sF
 | (.ok ps,a)=>(.ok (.mk false k ts ps),a)
 | (.error e,a)=>(.error e,a)
theorem Ea (ps:List kX) (r:kX):ps.map jf++[[.bool r.assumed,IC r.index,.sl (r.types.map aG),.sl (r.proofs.map jf)]]=(ps++[r]).map jf:=by rw[abA,aaW,abv,jK r]
theorem Ul (p:Prog) (o:List bH) (c:Int) (gs:List di) (g:di) (res:sF) (f:Int->di->sF) (fi:List Impl->Nat->Option (Nat×Impl×List Ty)) (hc:0<=c/\c<=400) (hg:(gs.length:Int)<=c)
  (cr:p.impls.length<=9223372036854775807)
  (bm:∀k,fi [] k=none) (ao:∀x l k,fi (x::l) k=if x.trait=g.tr/\(oV x g.t).2=true then some (k,x,(oV x g.t).1) else fi l (k+1))
  (hn:fi p.impls 0=none->res=(.error 9,c)) (hs:∀k x ts,fi p.impls 0=some (k,x,ts)->res=RD k ts (kY f (x.bounds.map (vg ts)) c []))
  (hf:∀u g',c<=u->u<=400->RA p o u gs g' (f u g')/\∀r m,f u g'=(.ok r,m)->u<m/\m<=400) :
  evalTC P ⟨fun _=>True,[],some (zy p o gs res)⟩ WX (fun _ _ _=>False) (UD p o gs res) (fun _ _=>False) (MB p o c gs) (eB p g):=by
 have av:=fun x=>WY x g.t;have bu:=fun(ts:List Ty) (n:Int)=>XG (ts.map aG) n;generalize ag:(fun x=>oV x g.t)=mI;have ag:∀x,oV x g.t=mI x:=fun x=>by rw[<-ag]
 have ao:∀x l k,fi (x::l) k=if x.trait=g.tr/\(mI x).2=true then some (k,x,(mI x).1) else fi l (k+1):=fun x l k=>by rw[<-ag];exact ao x l k
 have av:∀x:Impl,CallsT P 24 [aR x.type,aR g.t,IC x.params] [] (aT [] (.tup [.sl ((mI x).1.map aG),.bool (mI x).2])):=fun x=>by rw[<-ag];exact av x
 have aE:(p.impls.map dF).length=p.impls.length:=v5 _;have bj:∀x:Impl,(x.bounds.map bP).length=x.bounds.length:=fun x=>v5 _;have am:∀l:List Ty,(l.map aG).length=l.length:=fun l=>v5 _;have bc:∀c w,kY f [] c w=(.ok w,c):=fun c w=>rfl;have bk:∀g l c w,kY f (g::l) c w=match f c g with | (.ok r,u)=>kY f l u (w++[r]) | (.error e,u)=>(.error e,u):=fun g l c w=>rfl
 refine cA p.impls.length 41 [] () (fun _=>[]) (fun _=>[(7,.box 64 [.bool false,IC 0,.nils,.nils]),(1000,.box 3 [IC c]),(1001,.box 107 [.rw 1003]),(1002,.box 108 [Ln p o]),(1003,zw gs)]) (fun k _=>fi (p.impls.drop k) k=fi p.impls 0) rfl (ak rfl) trivial ⟨.inl ⟨_,rfl,.inl ⟨rfl,rfl⟩⟩,.inl ⟨_,rfl,.inl ⟨rfl,rfl⟩⟩,.inl ⟨_,rfl,.inl ⟨rfl,rfl⟩⟩,.inl ⟨_,rfl,.inl ⟨rfl,rfl⟩⟩,.inl ⟨_,rfl,.inl ⟨rfl,rfl⟩⟩,trivial⟩ (fun _=>rfl) (fun _=>rfl) ?_;rintro k _ hk d _ _ _;have d:fi (p.impls.drop k) k=fi p.impls 0:=d;refine ah (fun ac=>?_) (fun aw=>?_)
 ·have ac:k<p.impls.length:=by rw[aE] at ac;omega
  refine aW ac fun x hx cf bo=>?_;have ba:=bj x;rw[bo,ao] at d;refine AP (by omega) (show p.impls[((k:Int)).toNat]?=some x from hx) ?_;refine aS (fun q=>?_) (fun q=>?_)
  ·rw[fL (fun z=>q z.1)] at d;refine Fit.aag (by omega) (by omega) ?_;exact⟨(k+1,()),⟨ac,d⟩,⟨bU,trivial⟩,⟨.inl ⟨_,rfl,.inl ⟨rfl,rfl⟩⟩,.inl ⟨_,rfl,.inl ⟨rfl,rfl⟩⟩,.inl ⟨_,rfl,.inl ⟨rfl,rfl⟩⟩,.inl ⟨_,rfl,.inl ⟨rfl,rfl⟩⟩,.inl ⟨_,rfl,.inl ⟨rfl,rfl⟩⟩,trivial⟩,bX ac⟩
  refine bf (av x) rfl fun _=>?_;refine aq (fun q2=>?_) (fun q2=>?_)
  ·have q2:(mI x).2=false:=by simpa using q2
   rw[fL (fun z=>by rw[q2] at z;exact aa8 z.2)] at d;refine Fit.aag (by omega) (by omega) ?_;exact⟨(k+1,()),⟨ac,d⟩,⟨bU,trivial⟩,⟨.inl ⟨_,rfl,.inl ⟨rfl,rfl⟩⟩,.inl ⟨_,rfl,.inl ⟨rfl,rfl⟩⟩,.inl ⟨_,rfl,.inl ⟨rfl,rfl⟩⟩,.inl ⟨_,rfl,.inl ⟨rfl,rfl⟩⟩,.inl ⟨_,rfl,.inl ⟨rfl,rfl⟩⟩,trivial⟩,bX ac⟩
  have q2:(mI x).2=true:=by simpa using q2
  have q:x.trait=g.tr:=q;rw[fo ⟨q,q2⟩] at d;have an:=hs k x _ d.symm;generalize ci:(mI x).1=ts at an ⊢;refine cA x.bounds.length 69 [] (([]:List kX),c) (fun _=>[]) (fun s=>[(7,.box 64 [.bool false,IC 0,.nils,.nils]),(10,.box 56 [IC x.trait,IC x.module,IC x.params,.sl (x.bounds.map bP),IC x.type.kind,IC x.type.id,.sl (x.type.args.map aG),IC x.func]),(13,.box 64 [.bool false,IC k,.sl (ts.map aG),.rw 91]),(91,.row 64 4 (s.1.map jf)),(1000,.box 3 [IC s.2]),(1001,.box 107 [.rw 1003]),(1002,.box 108 [Ln p o]),(1003,zw gs)]) (fun j s=>RD k ts (kY f ((x.bounds.drop j).map (vg ts)) s.2 s.1)=res/\c+j<=s.2/\s.2<=400/\s.1.length=j) ⟨an.symm,by simp,hc.2,rfl⟩ (ak rfl) trivial
   ⟨.inl ⟨_,rfl,.inl ⟨rfl,rfl⟩⟩,.inl ⟨_,rfl,.inl ⟨rfl,rfl⟩⟩,.inl ⟨_,rfl,.inr ⟨64,_,_,rfl,rfl,_,_,rfl,ak rfl,_,_,rfl,ak rfl,_,_,rfl,ak rfl,_,_,rfl,rZ rfl rfl,rfl⟩⟩,.inr ⟨rfl,64,4,rfl⟩,.inl ⟨_,rfl,.inl ⟨rfl,rfl⟩⟩,.inl ⟨_,rfl,.inl ⟨rfl,rfl⟩⟩,.inl ⟨_,rfl,.inl ⟨rfl,rfl⟩⟩,.inl ⟨_,rfl,.inl ⟨rfl,rfl⟩⟩,trivial⟩ (fun _=>rfl) (fun _=>rfl) ?_
  rintro j s hj a _ _ _;have a:RD k ts (kY f ((x.bounds.drop j).map (vg ts)) s.2 s.1)=res/\c+j<=s.2/\s.2<=400/\s.1.length=j:=a;have cc:=a.2.1;have cd:=a.2.2.1;have hl:=a.2.2.2;have a:=a.1;refine ah (fun h=>?_) (fun ad=>?_)
  ·have h:j<x.bounds.length:=by rw[ba] at h;omega
   refine aW h fun b hb ce bt=>?_;rw[bt,aaW,bk] at a;refine AQ (by omega) (show x.bounds[((j:Int)).toNat]?=some b from hb) ?_;refine bf (bu ts b.param) rfl fun _=>?_;refine AO (fun q3=>?_) (fun q3=>?_)
   ·rw[am] at q3;have q4:=ig.1 q3;refine vP (kU (l:=ts) (k:=b.param.toNat) (by omega)) fun y hy=>?_;refine Uk q4.1 hy ?_;have eg:vg ts b=⟨b.trait,y⟩:=by
     unfold vg;rw[q3];rw[fo rfl,hy];rfl
    rw[eg] at a;have hq:=hf s.2 ⟨b.trait,y⟩ (by omega) (by omega);cases hr:f s.2 ⟨b.trait,y⟩ with
    | mk r0 m =>
     rw[hr] at hq a;cases r0 with
     | error e =>
      have aa:CallsTS P 77 (zx p o ⟨b.trait,y⟩) (PB p o s.2 gs) (fun _ _=>False) (fun Mo v=>Mo=PB p o m gs/\v=yT e):=CallsTS.imp hq.1 (fun Mo v ⟨r,u,q,_⟩=>by cases q) (fun Mo v ⟨e',u,q,q1,q2⟩=>by cases q;exact⟨q1,q2⟩);refine GU [1000,1001,1002,1003] aa rfl rfl rfl rfl fun v Mo q=>⟨trivial,PB p o m gs,?_,e,m,a.symm,rfl,q.2⟩;rw[q.1];rfl
     | ok r =>
      have aa:CallsTS P 77 (zx p o ⟨b.trait,y⟩) (PB p o s.2 gs) (aT (PB p o m gs) (.agg [.bool r.assumed,IC r.index,.sl (r.types.map aG),.sl (r.proofs.map jf)])) (fun _ _=>False):=CallsTS.imp hq.1 (fun Mo v ⟨r',u,q,q1,q2⟩=>by cases q;exact⟨q1,by rw[q2,jK]⟩) (fun Mo v ⟨e',u,q,_⟩=>by cases q);have bl:=hq.2 r m rfl;refine GS [1000,1001,1002,1003] aa rfl rfl rfl rfl rfl (fun v Mo q=>q.elim) fun _ _=>?_;refine rB j rfl (by rw[v5];exact hl) (by decide) (by omega) ?_;refine Fit.aag (by omega) (by omega) ?_;exact⟨(j+1,(s.1++[r],m)),⟨h,a,(by show c+((j+1:Nat):Int)<=m;omega),(by show m<=400;omega),by simp[hl]⟩,⟨bU,trivial⟩,⟨.inl ⟨_,rfl,.inl ⟨rfl,rfl⟩⟩,.inl ⟨_,rfl,.inl ⟨rfl,rfl⟩⟩,.inl ⟨_,rfl,.inl ⟨rfl,rfl⟩⟩,.inl ⟨_,rfl,.inl ⟨DE (Ea s.1 r),rfl⟩⟩,.inl ⟨_,rfl,.inl ⟨rfl,rfl⟩⟩,.inl ⟨_,rfl,.inl ⟨rfl,rfl⟩⟩,.inl ⟨_,rfl,.inl ⟨rfl,rfl⟩⟩,.inl ⟨_,rfl,.inl ⟨rfl,rfl⟩⟩,trivial⟩,bX h⟩
   ·rw[am] at q3;have eg:vg ts b=⟨b.trait,zT⟩:=by
     unfold vg;rw[q3];rw[fL aa8]
    rw[eg] at a;have hq:=hf s.2 ⟨b.trait,zT⟩ (by omega) (by omega);cases hr:f s.2 ⟨b.trait,zT⟩ with
    | mk r0 m =>
     rw[hr] at hq a;cases r0 with
     | error e =>
      have aa:CallsTS P 77 (zx p o ⟨b.trait,zT⟩) (PB p o s.2 gs) (fun _ _=>False) (fun Mo v=>Mo=PB p o m gs/\v=yT e):=CallsTS.imp hq.1 (fun Mo v ⟨r,u,q,_⟩=>by cases q) (fun Mo v ⟨e',u,q,q1,q2⟩=>by cases q;exact⟨q1,q2⟩);refine GU [1000,1001,1002,1003] aa rfl rfl rfl rfl fun v Mo q=>⟨trivial,PB p o m gs,?_,e,m,a.symm,rfl,q.2⟩;rw[q.1];rfl
     | ok r =>
      have aa:CallsTS P 77 (zx p o ⟨b.trait,zT⟩) (PB p o s.2 gs) (aT (PB p o m gs) (.agg [.bool r.assumed,IC r.index,.sl (r.types.map aG),.sl (r.proofs.map jf)])) (fun _ _=>False):=CallsTS.imp hq.1 (fun Mo v ⟨r',u,q,q1,q2⟩=>by cases q;exact⟨q1,by rw[q2,jK]⟩) (fun Mo v ⟨e',u,q,_⟩=>by cases q);have bl:=hq.2 r m rfl;refine GS [1000,1001,1002,1003] aa rfl rfl rfl rfl rfl (fun v Mo q=>q.elim) fun _ _=>?_;refine rB j rfl (by rw[v5];exact hl) (by decide) (by omega) ?_;refine Fit.aag (by omega) (by omega) ?_;exact⟨(j+1,(s.1++[r],m)),⟨h,a,(by show c+((j+1:Nat):Int)<=m;omega),(by show m<=400;omega),by simp[hl]⟩,⟨bU,trivial⟩,⟨.inl ⟨_,rfl,.inl ⟨rfl,rfl⟩⟩,.inl ⟨_,rfl,.inl ⟨rfl,rfl⟩⟩,.inl ⟨_,rfl,.inl ⟨rfl,rfl⟩⟩,.inl ⟨_,rfl,.inl ⟨DE (Ea s.1 r),rfl⟩⟩,.inl ⟨_,rfl,.inl ⟨rfl,rfl⟩⟩,.inl ⟨_,rfl,.inl ⟨rfl,rfl⟩⟩,.inl ⟨_,rfl,.inl ⟨rfl,rfl⟩⟩,.inl ⟨_,rfl,.inl ⟨rfl,rfl⟩⟩,trivial⟩,bX h⟩
  ·have ad:¬j<x.bounds.length:=by rw[ba] at ad;omega
   rw[bS ad,abv,bc] at a;refine⟨rfl,.mk false k ts s.1,s.2,a.symm,?_⟩;rw[jK];rfl
 ·have aw:¬k<p.impls.length:=by rw[aE] at aw;omega
  rw[bS aw,bm] at d;exact⟨yT 9,rfl,rfl,trivial,_,rfl,9,c,hn d.symm,rfl,rfl⟩
end Go.Fr.Try
namespace Go.Fr
open Go Go.RowKit
section
variable {P:Program}
theorem Cv {f:FuncId}{fn:Func}{c:Code}{sc:ax}{A:cT}{rs:List RV}{F:au}{Lin:List Own}{R:au->List Own->Value->Prop}(a:List SV)
  (hf:P.funcs[f]?=some fn) (hb:fn.body=some c) (hl:low P A c=some sc) (hn:fn.ntmps=A.n) (s:mF P fn.results.toList=some rs) (ag:a.length<=A.n)
  (o:∀v∈a,(∀k off,v=.own k off->∃g ty cs,(inp Lin).get k=some (.box g ty cs))/\(∀ad j,v=.el ad j->ad≠none))
  (h:jh P sc (fun _ _ _ _=>False) (fun F' L' ρ'=>mW L' ρ' rs fun d=>IK F' L' (fR d) R) (fun F' L' ρ'=>mW L' ρ' rs fun d=>IK F' L' (fR d) R) F (inp Lin) (CC 0 a)) (u:FrameMode) (w:World) (hs:St F (inp Lin) w) :
  CallsD P f (a.map (conc (inp Lin))).toArray u w fun e u' w'=>u'=u/\∃v F' Lo,e=.returned v/\St F' (inp Lo) w'/\Step F (inp Lin) w F' (inp Lo) w'/\R F' Lo v:=by
 refine callsD_of_wp hf hb ?_;have he:aA (inp Lin) (CC 0 a) {tmps:=(a.map (conc (inp Lin))).toArray++Array.replicate (fn.ntmps-(a.map (conc (inp Lin))).toArray.size) undef,defers:=[]}:=by
  have x:∀t,CC 0 a t=.v undef\/CC 0 a t∈a:=by
   intro t;rw[w9];simp only[aa9,abj,Nat.sub_zero];cases e:a[t]? with
   | none=>exact .inl rfl
   | some v=>exact .inr (aaX e)
  refine⟨fun t=>?_,fun t k off e=>?_,fun t ad j e=>?_⟩
  ·rw[w9];simp only[aa9,abj,Nat.sub_zero,aa4];cases e:a[t]? with
   | some v =>
    have z:t<a.length:=(aaR.1 e).1;rw[Array.getElem?_append_left (by simpa using z)];simp[e]
   | none =>
    have ac:a.length<=t:=abx.1 e;rw[Array.getElem?_append_right (by simpa using ac)];simp only[Array.getElem?_replicate,Option.getD_none,conc];split<;>rfl
  ·rcases x t with h1 | h1
   ·rw[h1] at e;cases e
   ·exact(o _ h1).1 k off e
  ·rcases x t with h1 | h1
   ·rw[h1] at e;cases e
   ·exact(o _ h1).2 ad j e
 refine wp_mono (qd c hl hs he (by simp[hn];omega) h) ?_;intro e a' w' q;have fin:∀{a0:Act},a0.defers=[]->dY A.n F (inp Lin) w a0 (dI c) (fun F' L' ρ'=>mW L' ρ' rs fun d=>IK F' L' (fR d) R) a' w'->a'.defers=[]/\∃v,(results fn a'.tmps).run P w'=.ok v w' /\
   ∃v' F' Lo,Ending.returned v=.returned v'/\St F' (inp Lo) w'/\Step F (inp Lin) w F' (inp Lo) w'/\R F' Lo v':=by
  rintro a0 ab ⟨F',L',ρ',g1,g2,g3,g4,m,g6,y⟩;obtain⟨d,hm,⟨ko,Lo,k1,k2,k3⟩⟩:=nA g1 g2 s y;refine⟨g4.trans ab,fR d,?_,fR d,F',Lo,rfl,g1.handed k1 k2,?_,k3⟩
  ·rw[oq];rw[Array.mapM_eq_mapM_toList];simp only[Sem.run_bind,Sem.run_map];rw[hm];simp only[Result.andThen_ok,Sem.run_pure];congr 1
   match d with
   | []=>rfl
   | [t]=>rfl
   | t::u::r =>
    simp only[fR];rw[dif_neg (by simp)]
  ·obtain⟨e1,e2⟩:=cu k1;refine⟨m.le,m.os,m.tape,m.output,m.size,m.same,m.frz,fun b hb=>m.own b ?_⟩;obtain⟨j,p,e,hb⟩:=hb;rw[aF] at e;split at e
   case isFalse=>cases e
   have z:j-1000<Lo.length:=(aaR.1 e).1;have hk:ko[j-1000]?=some (ko[j-1000]'(by omega)):=aaN (by omega);exact⟨_,p,by rw[e2 _ _ hk];exact e,hb⟩
 cases e with
 | normal=>exact fin rfl q
 | ret=>exact fin rfl q
 | exit j=>obtain⟨F',L',ρ',_,_,_,_,_,_,h⟩:=q;exact h.elim
 | goto l=>exact q.elim
 | panic c=>exact(noPan q).elim
 | outgrown=>exact q.elim
end
theorem St.aaB {F:au}{L1 L2:Loc}{w:World}(b:St F L1 w) (h:∀k o,L2.get k=some o->∃a,L1.get k=some a/\a.blk=o.blk/\o.ok w):St F L2 w :=
 ⟨b.frz,fun k o e=>let⟨_,_,_,h3⟩:=h k o e;h3,fun k o g e c=>let⟨a,h1,h2,_⟩:=h k o e;b.off k a g h1 (h2.trans c),
  fun k f o o' g e j c d=>let⟨a,h1,h2,_⟩:=h k o e;let⟨o2,h3,h4,_⟩:=h f o' j;b.sep k f a o2 g h1 h3 (h2.trans c) (h4.trans d),b.glob⟩
theorem Step.aaB {F F':au}{L L1 L2:Loc}{w w':World}(a:Step F L w F' L1 w') (h:∀k o,L2.get k=some o->∃c,L1.get k=some c/\c.blk=o.blk):Step F L w F' L2 w' :=
 ⟨a.le,a.os,a.tape,a.output,a.size,a.same,a.frz,fun b ⟨k,o,e,hb⟩=>let⟨c,h1,h2⟩:=h k o e;a.own b ⟨k,c,h1,h2.trans hb⟩⟩
end Go.Fr
namespace Go.Fr.Try
open Go Go.RowKit Go.Proofs Go.Fr Go.Fr.T Go.Fr.Api
theorem RH:∃c,Try.f83.body=some c/\low Try.prog Xw c=some Zt:=⟨Try.f83.body.getD .skip,by kernel_rfl,by kernel_rfl⟩
theorem Um {F:au}{b:Nat}{a:Addr}{n c:Nat}{xs:List Value}(o:(n:Int)+1<=9223372036854775807) (p:n+1<=c) (l:a.off=0) (u:FrameMode) (w:World)
  (f:St F (inp [.box b 107 [.slice (some a) (n+1) c],.row (.slice (some a) (n+1) c) 110 4 (n+1) xs]) w) :
  CallsD P 83 #[.pointer (some ⟨b,0,none⟩)] u w fun e j w'=>j=u/\∃v F' Lo,e=.returned v/\St F' (inp Lo) w'/\Step F (inp [.box b 107 [.slice (some a) (n+1) c],.row (.slice (some a) (n+1) c) 110 4 (n+1) xs]) w F' (inp Lo) w' /\
   (Lo=[.box b 107 [.slice (some a) n c],.row (.slice (some a) (n+1) c) 110 4 (n+1) xs]/\v=.tuple #[]):=by
 obtain⟨m,hb,h⟩:=RH;refine Cv (P:=P) (A:=Xw) (rs:=[]) (R:=fun F' Lo v=>Lo=[.box b 107 [.slice (some a) n c],.row (.slice (some a) (n+1) c) 110 4 (n+1) xs]/\v=.tuple #[]) [.own 1000 0] Try.func83 hb h (by kernel_rfl) (by kernel_rfl) (by decide) ?_ ?_ u w f
 ·intro v d;rcases aaT.1 d with rfl | d
  ·exact⟨fun k off e=>by injection e with e1 e2;subst e1;exact⟨_,_,_,rfl⟩,fun _ _ e=>by cases e⟩
  ·cases d
 refine Fit.aag (by omega) (by omega) ?_;refine⟨by omega,by omega,by omega,?_⟩;have e:rG (some a) c (0:Int).toNat (((n+1:Nat):Int)-1).toNat 4=.slice (some a) n c:=by
  unfold rG;rw[fL (by show¬c=0;omega),show(((n+1:Nat):Int)-1).toNat=n by omega];rfl
 refine⟨[1000,1001],_,rfl,by decide,?_,rfl⟩;rw[<-e];rfl
theorem vJ {F:au}{sz:Nat}:∀{l m:List (List C)}{xs:List Value},aN F sz (l++m) xs->aN F sz l (xs.take (l.length*sz))
 | [],m,xs,_=>by simp[aN]
 | e::l,m,xs,h=>by
  rw[aa2] at h;simp only[aN] at h ⊢;obtain⟨b,a,rfl,h1,c,d,f⟩:=h;refine⟨b,a.take (l.length*sz),?_,h1,c,d,vJ f⟩;rw[aa7,Nat.add_mul,Nat.one_mul,Nat.add_comm (l.length*sz),List.take_append,abF (by omega),show sz+l.length*sz-b.length=l.length*sz by omega]
theorem RI {F:au}{e f:Own}{l k:TO}(h0:cE F (inp [e,f]) l e) (h1:cE F (inp [e,f]) k f):bK F (inp [e,f]) (cD [l,k]):=by
 intro j;have c:∀{m:Type}(a b:m) (h:1000<=j),[a,b][j-1000]?=if j=1000 then some a else if j=1001 then some b else none:=fun a b h=>by
  by_cases d:j=1000
  ·rw[fo d,show j-1000=0 by omega];rfl
  rw[fL d]
  by_cases c:j=1001
  ·rw[fo c,show j-1000=1 by omega];rfl
  rw[fL c];exact abo (by simp;omega)
 rw[aF,ck]
 by_cases h:1000<=j
 ·rw[fo h,fo h,c _ _ h,c _ _ h]
  by_cases d:j=1000
  ·rw[fo d,fo d];exact h0
  rw[fL d,fL d]
  by_cases c:j=1001
  ·rw[fo c,fo c];exact h1
  rw[fL c,fL c];trivial
 ·rw[fL h,fL h];trivial
theorem P1 {F:au}{p:Prog}{gs:List di}{g:di}{Li:List Own}{vs:List Value}(hg:gs.length<=400) (hl:Li.length=2) (r:bK F (inp Li) (cD [.box 107 [.rw 1001],zw (gs++[g])])) (ha:ay F (inp Li) [.own 1000 0] vs) (u:FrameMode) (w:World) (hs:St F (inp Li) w) :
  CallsD P 83 vs.toArray u w fun e u' w'=>u'=u/\∃v F' Lo,e=.returned v/\St F' (inp Lo) w'/\Step F (inp Li) w F' (inp Lo) w'/\gC Li (aT [.box 107 [.rw 1001],zw gs] (.tup [])) F' Lo v:=by
 match Li,hl with
 | [o0,l],_ =>
  have q0:=r 1000;have q1:=r 1001;have q0:cE F (inp [o0,l]) (.box 107 [.rw 1001]) o0:=q0;have q1:cE F (inp [o0,l]) (zw (gs++[g])) l:=q1;cases o0 with
  | row=>exact q0.elim
  | box b0 t0 c0 =>
  cases l with
  | box=>exact q1.elim
  | row v1 t1 s1 n1 j =>
  obtain⟨s,z⟩:=q0;obtain⟨rfl,rfl,am,⟨cc,a,cap,cr,bu⟩,q⟩:=q1;simp only[ay,Rel] at z;obtain⟨v,ar,rfl,⟨a',c,t',bb,n',az,rfl,d⟩,rfl⟩:=z;have d:some (Own.row v1 110 4 n1 j)=some (.row (.slice a' n' c) t' bb n' az):=d;injection d with d
  injection d with n e2 e3 e4 e5
  subst n e2 e3 e4 e5;have hn:n1=gs.length+1:=by rw[am];simp
  subst hn;have ht:t0=107:=by
   obtain⟨_,h | h,_⟩:=s
   ·exact h.symm
   ·omega
  subst ht;have aa:w.ownsRow 0 110 4 (.slice a' (gs.length+1) c) (gs.length+1) j:=hs.own 1001 _ rfl;obtain⟨bv,aw⟩:=aa;rcases aw with⟨hz,_⟩ | ⟨m,cp,cb,av,co,bz,ao,bp,ca,cl⟩
  ·cases hz
  injection av with w1 w2 w3
  subst w1 w3;have aE:vs=[.pointer (some ⟨b0,0,none⟩)]:=by
   simp only[ay,Rel] at ha;obtain⟨v,ar,rfl,⟨g',t',cs',d,rfl⟩,rfl⟩:=ha;have d:some (Own.box b0 107 [Value.slice (some ⟨m,0,none⟩) (gs.length+1) c])=some (.box g' t' cs'):=d;injection d with d
   injection d with n
   subst n;rfl
  subst aE;refine(Um (by omega) ao rfl u w hs).mono ?_;rintro e u' w' ⟨hu,v,F',Lo,he,g1,g2,rfl,rfl⟩;have ag:j=j.take (gs.length*4)++j.drop (gs.length*4):=(List.take_append_drop _ _).symm;have y:w'.ownsRow 0 110 4 (.slice (some ⟨m,0,none⟩) gs.length c) gs.length (j.take (gs.length*4)):=by
   have h1:=g1.own 1001 _ (show _=some (Own.row (.slice (some ⟨m,0,none⟩) (gs.length+1) c) 110 4 (gs.length+1) j) from rfl);have h1:w'.ownsRow 0 110 4 (.slice (some ⟨m,0,none⟩) (gs.length+1) c) (gs.length+1) j:=h1;rw[ag] at h1;exact ownsRow_pop (by rw[abL];omega) h1
  have x:∀k o,(inp [.box b0 107 [.slice (some ⟨m,0,none⟩) gs.length c],.row (.slice (some ⟨m,0,none⟩) gs.length c) 110 4 gs.length (j.take (gs.length*4))]).get k=some o ->
    ∃l,(inp [.box b0 107 [.slice (some ⟨m,0,none⟩) gs.length c],.row (.slice (some ⟨m,0,none⟩) (gs.length+1) c) 110 4 (gs.length+1) j]).get k=some l/\l.blk=o.blk/\o.ok w':=by
   intro k o f;rw[aF] at f;split at f
   case isFalse=>cases f
   rename_i ci
   by_cases e0:k=1000
   ·subst e0;injection f with f
    subst f;exact⟨_,rfl,rfl,g1.own 1000 _ rfl⟩
   by_cases n:k=1001
   ·subst n;injection f with f
    subst f;exact⟨_,rfl,rfl,y⟩
   rw[abo (by simp;omega)] at f;cases f
  refine⟨hu,.tuple #[],F',_,he,g1.aaB x,g2.aaB (fun k o h=>let⟨l,a,b,_⟩:=x k o h;⟨l,a,b⟩),[.box 107 [.rw 1001],zw gs],.tup [],rfl,RI ⟨s,?_⟩ ⟨rfl,rfl,by simp,⟨by omega,some ⟨m,0,none⟩,c,rfl,fun h=>by cases h⟩,?_⟩,by simp only[Rel,ay];exact⟨[],rfl,rfl⟩,fun i g t cs hi=>?_,rfl,rfl⟩
  ·simp only[ay,Rel];exact⟨_,_,rfl,⟨_,_,_,_,_,_,rfl,rfl⟩,rfl⟩
  ·have:=q;rw[abA] at this;have h2:=vJ this;rw[v5] at h2;exact h2.mono g2.le
  ·cases i with
   | zero =>
    injection hi with hi
    injection hi with n e2 e3
    subst n e2;exact⟨_,rfl⟩
   | succ i =>
    cases i with
    | zero=>injection hi with hi;cases hi
    | succ i=>simp at hi
theorem WZ {F:au}{p:Prog}{a:List bH}{c:Int}{gs:List di}{g:di}{Lo:List Own}{o t1:Nat}{d:List Value}(hg:gs.length<=400) (hl:Lo.length=4) (m:bK F (inp Lo) (cD (PB p a c (gs++[g])))) (h1:Lo[1]?=some (.box o t1 d)) (u:FrameMode) (w:World) (hs:St F (inp Lo) w) :
  CallsD P 83 #[.pointer (some ⟨o,0,none⟩)] u w fun e u' w'=>u'=u/\∃v F' Lo',e=.returned v/\St F' (inp Lo') w'/\Step F (inp Lo) w F' (inp Lo') w'/\Lo'.length=4/\bK F' (inp Lo') (cD (PB p a c gs))/\∀(i:Nat) b t cs,Lo[i]?=some (.box b t cs)->∃cs',Lo'[i]?=some (.box b t cs'):=by
 have ht:TS (fun _=>none) F (inp Lo) (fun _=>.v undef) (cD (PB p a c (gs++[g]))) (fun _=>.any):=⟨m,fun _=>trivial,fun k g t e=>(by cases e),hs.glob⟩;have al:(cD (PB p a c (gs++[g]))).sub [1001,1003]=some [.box 107 [.rw 1003],zw (gs++[g])]:=rfl;obtain⟨Li,x,e2,e3⟩:=j4 m al;have hn:[1001,1003].Nodup:=by decide
 obtain⟨x1,x2⟩:=cu x;have s:bK F (inp Li) (cD [.box 107 [.rw 1001],zw (gs++[g])]):=kT m e2 x e3;have n:(inp Lo).get 1001=some (.box o t1 d):=by rw[aF,fo (by omega)];exact h1
 have ha:ay F (inp Li) [.own 1000 0] [.pointer (some ⟨o,0,none⟩)]:=by
  have h0:Li[0]?=some (.box o t1 d):=by rw[<-x2 0 1001 rfl];exact n
  simp only[ay,Rel];refine⟨_,_,rfl,⟨o,t1,d,?_,rfl⟩,rfl⟩;rw[aF,fo (by omega)];exact h0
 refine(P1 (p:=p) hg e2 s ha u w (hs.handed x hn)).mono ?_;rintro e u' w' ⟨hu,v,F',Lr,he,g1,g2,hR⟩;have y:[1001,1003].length=Lr.length:=by
  obtain⟨Mo,c',q1,q2,q3,q4,q5⟩:=hR;rw[<-q1,q5.1];rfl
 obtain⟨c1,l⟩:=fS hs x hn hn (fun k r=>.inl r) g1 g2 y;obtain⟨y1,y2,M',bk,cc,y3,y4,rfl⟩:=qI (K:=fun M' _ _=>M'=(((cD (PB p a c (gs++[g]))).aae [1001,1003]).kills (rowsOf (cD (PB p a c (gs++[g]))) [1001,1003])).puts [1001,1003] ([TO.box 107 [.rw 1001],zw gs].map (TO.aad (C.ren (aH [1001,1003]))))) ht rfl rfl rfl rfl x e2 e3
  (fun v' Mo' e _ _=>by obtain⟨q1,q2⟩:=e;subst q1;exact⟨rfl,rfl⟩) v F' Lr g2.le hR
 have an:((((cD (PB p a c (gs++[g]))).aae [1001,1003]).kills (rowsOf (cD (PB p a c (gs++[g]))) [1001,1003])).puts [1001,1003] ([TO.box 107 [.rw 1001],zw gs].map (TO.aad (C.ren (aH [1001,1003]))))).sub [1000,1001,1002,1003]=some (PB p a c gs):=rfl;obtain⟨Lo',d1,d2,d3⟩:=j4 y3.tl an;obtain⟨z1,z2⟩:=cu d1;refine⟨hu,v,F',Lo',he,c1.handed d1 (by decide),?_,d2,kT y3.tl d2 d1 d3,fun i b t cs hi=>?_⟩
 ·refine⟨l.le,l.os,l.tape,l.output,l.size,l.same,l.frz,fun b hb=>l.own b ?_⟩;obtain⟨j,q,e,hb⟩:=hb;rw[aF] at e;split at e
  case isFalse=>cases e
  have f:j-1000<Lo'.length:=(aaR.1 e).1;have r:([1000,1001,1002,1003]:List Nat)[j-1000]?=some (([1000,1001,1002,1003]:List Nat)[j-1000]'(by rw[d2] at f;exact f)):=aaN _;exact⟨_,q,by rw[z2 _ _ r];exact e,hb⟩
 ·have f:i<4:=by rw[<-hl];exact(aaR.1 hi).1
  have r:([1000,1001,1002,1003]:List Nat)[i]?=some (1000+i):=by
   match i,f with
   | 0,_=>rfl
   | 1,_=>rfl
   | 2,_=>rfl
   | 3,_=>rfl
  have z:(inp Lo).get (1000+i)=some (.box b t cs):=by rw[aF,fo (by omega),show 1000+i-1000=i by omega];exact hi
  by_cases hm:1000+i∈[1001,1003]
  ·obtain⟨cs',h⟩:=y2 _ b t cs hm z;exact⟨cs',by rw[<-z2 i _ r];exact h⟩
  ·refine⟨cs,?_⟩;rw[<-z2 i _ r];rcases cQ [1001,1003] Lr ((inp Lo).aae [1001,1003]) (1000+i) hn y with⟨a1,a2⟩ | ⟨i',a1,a2,a3⟩
   ·rw[a1,eL,fL hm];exact z
   ·exact o5 (aaX a1) hm
theorem Un {F:au}{p:Prog}{a:List bH}{c:Int}{gs:List di}{g:di}{d:Bool}{i0:Int}{n f:List (List C)}{Lo:List Own}{x t1:Nat}{l:List Value}(hg:gs.length<=400) (hl:Lo.length=5) (r:bK F (inp Lo) (cD (PB p a c (gs++[g])++[.box 64 [.bool d,IC i0,.sl n,.sl f]]))) (h1:Lo[1]?=some (.box x t1 l)) (u:FrameMode) (w:World) (hs:St F (inp Lo) w) :
  CallsD P 83 #[.pointer (some ⟨x,0,none⟩)] u w fun e u' w'=>u'=u/\∃v F' Lo',e=.returned v/\St F' (inp Lo') w'/\Step F (inp Lo) w F' (inp Lo') w'/\Lo'.length=5/\bK F' (inp Lo') (cD (PB p a c gs++[.box 64 [.bool d,IC i0,.sl n,.sl f]]))/\∀(i:Nat) b t cs,Lo[i]?=some (.box b t cs)->∃cs',Lo'[i]?=some (.box b t cs'):=by
 have ht:TS (fun _=>none) F (inp Lo) (fun _=>.v undef) (cD (PB p a c (gs++[g])++[.box 64 [.bool d,IC i0,.sl n,.sl f]])) (fun _=>.any):=⟨r,fun _=>trivial,fun k g t e=>(by cases e),hs.glob⟩;have ao:(cD (PB p a c (gs++[g])++[.box 64 [.bool d,IC i0,.sl n,.sl f]])).sub [1001,1003]=some [.box 107 [.rw 1003],zw (gs++[g])]:=rfl;obtain⟨Li,e1,e2,e3⟩:=j4 r ao;have hn:[1001,1003].Nodup:=by decide
 obtain⟨x1,x2⟩:=cu e1;have z:bK F (inp Li) (cD [.box 107 [.rw 1001],zw (gs++[g])]):=kT r e2 e1 e3;have s:(inp Lo).get 1001=some (.box x t1 l):=by rw[aF,fo (by omega)];exact h1
 have ha:ay F (inp Li) [.own 1000 0] [.pointer (some ⟨x,0,none⟩)]:=by
  have h0:Li[0]?=some (.box x t1 l):=by rw[<-x2 0 1001 rfl];exact s
  simp only[ay,Rel];refine⟨_,_,rfl,⟨x,t1,l,?_,rfl⟩,rfl⟩;rw[aF,fo (by omega)];exact h0
 refine(P1 (p:=p) hg e2 z ha u w (hs.handed e1 hn)).mono ?_;rintro e u' w' ⟨hu,v,F',Lr,he,g1,g2,hR⟩;have ab:[1001,1003].length=Lr.length:=by
  obtain⟨Mo,c',q1,q2,q3,q4,q5⟩:=hR;rw[<-q1,q5.1];rfl
 obtain⟨c1,o⟩:=fS hs e1 hn hn (fun k y=>.inl y) g1 g2 ab;obtain⟨y1,y2,M',bo,cc,y3,y4,rfl⟩:=qI (K:=fun M' _ _=>M'=(((cD (PB p a c (gs++[g])++[.box 64 [.bool d,IC i0,.sl n,.sl f]])).aae [1001,1003]).kills (rowsOf (cD (PB p a c (gs++[g])++[.box 64 [.bool d,IC i0,.sl n,.sl f]])) [1001,1003])).puts [1001,1003] ([TO.box 107 [.rw 1001],zw gs].map (TO.aad (C.ren (aH [1001,1003]))))) ht rfl rfl rfl rfl e1 e2 e3
  (fun v' Mo' e _ _=>by obtain⟨q1,q2⟩:=e;subst q1;exact⟨rfl,rfl⟩) v F' Lr g2.le hR
 have av:((((cD (PB p a c (gs++[g])++[.box 64 [.bool d,IC i0,.sl n,.sl f]])).aae [1001,1003]).kills (rowsOf (cD (PB p a c (gs++[g])++[.box 64 [.bool d,IC i0,.sl n,.sl f]])) [1001,1003])).puts [1001,1003] ([TO.box 107 [.rw 1001],zw gs].map (TO.aad (C.ren (aH [1001,1003]))))).sub [1000,1001,1002,1003,1004]=some (PB p a c gs++[.box 64 [.bool d,IC i0,.sl n,.sl f]]):=rfl;obtain⟨Lo',d1,d2,d3⟩:=j4 y3.tl av;obtain⟨z1,z2⟩:=cu d1;refine⟨hu,v,F',Lo',he,c1.handed d1 (by decide),?_,d2,kT y3.tl d2 d1 d3,fun i b t cs hi=>?_⟩
 ·refine⟨o.le,o.os,o.tape,o.output,o.size,o.same,o.frz,fun b hb=>o.own b ?_⟩;obtain⟨j,q,e,hb⟩:=hb;rw[aF] at e;split at e
  case isFalse=>cases e
  have m:j-1000<Lo'.length:=(aaR.1 e).1;have y:([1000,1001,1002,1003,1004]:List Nat)[j-1000]?=some (([1000,1001,1002,1003,1004]:List Nat)[j-1000]'(by rw[d2] at m;exact m)):=aaN _;exact⟨_,q,by rw[z2 _ _ y];exact e,hb⟩
 ·have m:i<5:=by rw[<-hl];exact(aaR.1 hi).1
  have y:([1000,1001,1002,1003,1004]:List Nat)[i]?=some (1000+i):=by
   match i,m with
   | 0,_=>rfl
   | 1,_=>rfl
   | 2,_=>rfl
   | 3,_=>rfl
   | 4,_=>rfl
  have ac:(inp Lo).get (1000+i)=some (.box b t cs):=by rw[aF,fo (by omega),show 1000+i-1000=i by omega];exact hi
  by_cases hm:1000+i∈[1001,1003]
  ·obtain⟨cs',h⟩:=y2 _ b t cs hm ac;exact⟨cs',by rw[<-z2 i _ y];exact h⟩
  ·refine⟨cs,?_⟩;rw[<-z2 i _ y];rcases cQ [1001,1003] Lr ((inp Lo).aae [1001,1003]) (1000+i) hn ab with⟨a1,a2⟩ | ⟨i',a1,a2,a3⟩
   ·rw[a1,eL,fL hm];exact ac
   ·exact o5 (aaX a1) hm
end Go.Fr.Try
namespace Go.Fr
open Go Go.RowKit
theorem Step.sub {F F':au}{L L1 L2:Loc}{w w':World}(a:Step F L w F' L1 w') (h:∀b,L2.owns b->L1.owns b):Step F L w F' L2 w' :=
 ⟨a.le,a.os,a.tape,a.output,a.size,a.same,a.frz,fun b hb=>a.own b (h b hb)⟩
end Go.Fr
namespace Go.Fr.Try
open Go Go.RowKit Go.Proofs Go.Fr Go.Fr.T Go.Fr.Api
theorem RJ {Lin:List TO}{Li:List Own}{F:au}{args:List C}{f:List Value}{w:World}(m:Nat) (hl:Li.length=Lin.length) (p:bK F (inp Li) (cD Lin)) (u:ay F (inp Li) args f) (y:St F (inp Li) w) :
  ∃(G:Nat->Option (Nat×TypeId)) (a:Env),aA (inp Li) a {tmps:=f.toArray++Array.replicate m undef,defers:=[]}/\TS G F (inp Li) a (cD Lin) (jM 0 args)/\(∀k g t cs,(inp Li).get k=some (.box g t cs)->G k=some (g,t))/\(∀k,G k≠none->1000<=k):=by
 have n:=u.len;have key:∀j,∃sv,aL F (inp Li) (jM 0 args j) sv/\conc (inp Li) sv=(f.toArray++Array.replicate m undef).getD j undef/\(∀k off,sv=.own k off->∃g t cs,(inp Li).get k=some (.box g t cs))/\(∀l i,sv=.el l i->l≠none):=by
  intro j;rw[nJ];simp only[aa9,abj,Nat.sub_zero,aa4];cases e:args[j]? with
  | some c =>
   have d:j<f.length:=by rw[n];exact(aaR.1 e).1
   obtain⟨s1,s2,s3,x⟩:=qK (u.at e (aaN d));refine⟨_,s1,?_,s3,fun l i e=>o5 e (x l i)⟩;rw[s2,Array.getElem?_append_left (by simpa using d)];simp[d]
  | none =>
   have q:f.length<=j:=by rw[n];exact abx.1 e
   refine⟨.v undef,kO,?_,fun _ _ e=>(by cases e),fun _ _ e=>(by cases e)⟩;rw[Array.getElem?_append_right (by simpa using q)];simp only[Array.getElem?_replicate,conc];split<;>rfl
 let a:Env:=fun j=>(key j).choose
 have z:aA (inp Li) a {tmps:=f.toArray++Array.replicate m undef,defers:=[]} :=
  ⟨fun t=>(key t).choose_spec.2.1.symm,fun t k off e=>(key t).choose_spec.2.2.1 k off e,fun t l j e=>(key t).choose_spec.2.2.2 l j e⟩
 let G:Nat->Option (Nat×TypeId):=fun k=>match(inp Li).get k with | some (.box g t _)=>some (g,t) | _=>none
 have s:∀k g t cs,(inp Li).get k=some (.box g t cs)->G k=some (g,t):=fun k g t cs e=>by simp only[G,e]
 have o:Kp G (inp Li):=by
  intro k g t e;simp only[G] at e;split at e
  ·rename_i g' t' cs h;injection e with e
   injection e with e1 e2
   subst e1 e2;exact⟨cs,h⟩
  ·cases e
 have r:∀k,G k≠none->1000<=k:=by
  intro k b;simp only[G] at b;split at b
  ·rename_i g t cs h;rw[aF] at h;split at h
   ·assumption
   ·cases h
  ·exact o5 rfl b
 exact⟨G,a,z,⟨p,fun j=>(key j).choose_spec.1,o,y.glob⟩,s,r⟩
def Ei (G:Nat->Option (Nat×TypeId)) (F0:au) (Li:List Own) (w0:World) (K:TK) (a:Act) (w:World):Prop :=
 ∃F L ρ M τ,St F L w/\aA L ρ a/\TS G F L ρ M τ/\a.tmps.size=97/\Step F0 (inp Li) w0 F L w/\K M τ
section
variable {G:Nat->Option (Nat×TypeId)}{F0:au}{Li:List Own}{w0:World}
theorem Ei.piece {c:Code}{u:ax}(hl:low Try.prog OP c=some u) (y:∀k,G k≠none->1000<=k) {PS:nD}{R N K:TK}{a:Act}{w:World}(h:Ei G F0 Li w0 K a w)
  (hK:∀M τ,K M τ->evalTC P PS u (fun _ _ _=>False) R N M τ) {Q:Exit->Act->World->Prop}
  (z:∀a' w',a'.defers=a.defers->Ei G F0 Li w0 N a' w'->Q .normal a' w')
  (hR:∀a' w',a'.defers=a.defers->Ei G F0 Li w0 R a' w'->Q .ret a' w')
  (hP:∀v o a' w',rD v o->a'.defers=a.defers->(∃F' L',St F' L' w'/\Step F0 (inp Li) w0 F' L' w'/\yY G PS F' L' v)->Q (.panic o) a' w'):c.wp P Q a w:=by
 obtain⟨F,L,ρ,M,τ,g1,g2,g3,x,q,hk⟩:=h;refine wp_mono (fu c hl (fun k _ s=>.inl (y k s)) g1 g2 g3 x (hK M τ hk)) ?_;intro e a' w' d;cases e with
 | normal =>
  obtain⟨F',L',ρ',k1,f,n,m,p,k6,M',b,r,k8⟩:=d;exact z a' w' m ⟨F',L',ρ',M',b,k1,f,r,n,q.trans p,k8⟩
 | ret =>
  obtain⟨F',L',ρ',k1,f,n,m,p,k6,M',b,r,k8⟩:=d;exact hR a' w' m ⟨F',L',ρ',M',b,k1,f,r,n,q.trans p,k8⟩
 | exit j=>obtain⟨F',L',ρ',_,_,_,_,_,_,M',b,_,h⟩:=d;exact h.elim
 | goto l=>exact d.elim
 | panic o =>
  obtain⟨v,t,F',L',k1,f,n,m,p,kp⟩:=d;exact hP v o a' w' t m ⟨F',L',k1,q.trans f,kp⟩
 | outgrown=>exact d.elim
end
theorem Eb {F:au}{L:Loc}{M:TL}(c:EI F L M):∀{ks:List Nat}{Lin:List TO},M.sub ks=some Lin->∃Li,L.sub ks=some Li/\Li.length=Lin.length/\∀(i:Nat) o p,Lin[i]?=some o->Li[i]?=some p->cE F L o p
 | [],Lin,h=>by simp only[TL.sub,vz] at h;subst h;exact⟨[],rfl,rfl,by simp⟩
 | k::ks,Lin,h=>by
  simp only[TL.sub] at h;split at h
  case h_2=>cases h
  rename_i o l h1 f;injection h with h
  subst h;obtain⟨Li,n,d,q⟩:=Eb c f;obtain⟨p,j,m⟩:=c k o h1;refine⟨p::Li,by simp only[Loc.sub,j,n],by simp[d],fun i o' e b a=>?_⟩;cases i with
  | zero =>
   simp only[aa3,vz] at b a;subst b a;exact m
  | succ i=>exact q i o' e b a
theorem RM {F:au}{L:Loc}{ks:List Nat}{Lin:List TO}{Li:List Own}(e:Li.length=Lin.length) (c:L.sub ks=some Li) (d:∀(i:Nat) o p,Lin[i]?=some o->Li[i]?=some p->cE F L o p) :
  bK F (inp Li) (cD (Lin.map (TO.aad (C.ren (bh ks 1000))))):=by
 intro k;rw[ck,aF];split
 ·rw[aa5];cases b:Lin[k-1000]? with
  | none =>
   have:Li[k-1000]?=none:=by rw[abx] at b ⊢;omega
   rw[this];trivial
  | some o =>
   have a:k-1000<Li.length:=by have:=(aaR.1 b).1;omega
   rw[aaN a];exact(d _ _ _ b (aaN a)).ren (lp c)
 ·trivial
theorem Ec {L:Loc}{ks:List Nat}{Lo:List Own}(f:L.sub ks=some Lo):∀b,(inp Lo).owns b->L.owns b:=by
 obtain⟨h,c⟩:=cu f;rintro b ⟨j,p,e,hb⟩;rw[aF] at e;split at e
 case isFalse=>cases e
 have a:j-1000<Lo.length:=(aaR.1 e).1;have d:ks[j-1000]?=some (ks[j-1000]'(by omega)):=aaN (by omega);exact⟨_,p,by rw[c _ _ d];exact e,hb⟩
theorem RO:WV=.region 10 #[{dst:=some 37,op:=.makeFunc (.func 83) #[] #[.tmp 2],type:=1,pos:="traits.go:134",after:=#[],guard:=none},
  {dst:=none,op:=.defer {callee:=.value (.tmp 37),args:=#[],argTypes:=#[]},type:=0,pos:="traits.go:134",after:=#[{on:=0,ground:=Ground.data}],guard:=none}] false:=by kernel_rfl
def dq (v:Value):Deferred:={target:=.fn (.func 83) #[v],args:=#[]}
theorem wpD {a:Act}{w:World}{v:Value}{Q:Exit->Act->World->Prop}(d:a.tmps.size=97) (e:a.tmps.getD 2 undef=v) (h:Q .normal {(a.put (some 37) (.func (.func 83) #[] #[v])) with defers:=dq v::a.defers} w):WV.wp P Q a w:=by
 rw[RO];apply wp_region;have b:a.tmps[2]?.getD undef=v:=by rw[<-aa4];exact e
 have c:∀q:2<a.tmps.size,a.tmps[2]'q=v:=fun q=>by rw[Array.getElem?_eq_getElem q] at b;exact b
 simp[wpOps,go_sem,Region.wanted,d,b,c,Array.getElem?_setIfInBounds,Instr.makeFunc]
 first
  | exact .inl (.inl h)
  | (trace_state;sorry)
end Go.Fr.Try
