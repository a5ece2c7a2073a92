/- Part of the proofs of the statements of this seat. -/
import Derived.Test.YtnlegbokpofcaaaGreatDoorSpQ2G
import Derived.Test.YtnlegbokpofcaaaGreatDoorSpP4G
import Derived.Test.YtnlegbokpofcaaaGreatDoorFW3
import Derived.Test.YtnlegbokpofcaaaGreatDoorSpE7G
import Derived.Test.YtnlegbokpofcaaaGreatDoorSpIds
import Derived.Deep.DeepWitnessRowRef
set_option maxRecDepth 10000
set_option linter.unusedVariables false
set_option linter.unusedSimpArgs false
namespace Go.Fr.Tryz
open Go Go.RowKit Go.Proofs Go.Fr Go.Fr.T Go.Fr.Api
def Hh (x:IL):G:=.st [I x.slot,.bool x.excl,.bool x.re]
def Hj (x:Slot):G:=.st [I x.state,x.type.g,I x.var,I x.flag,.sl 3 (x.lent.map Hh)]
def zF (l:List Slot):G:=.sl 7 (l.map Hj)
def Ey (r:zw):G:=.st [.str r.name,.sl 3 (r.params.map Ty.g),r.result.g,.sl 1 (r.ties.map I),I r.slots,.sl 4 (r.blocks.map Block.g),.sl 1 (r.entry.map zF)]
def I4 (i:wG):G:=.st [.sl 5 (i.datas.map Data.g),.sl 9 (i.routs.map Ey),I i.main]
mutual
def zG:Vl->G
 | .mk a b c d f e p l=>.st [I a,I b,I c,I d,.sl 8 (u7 f),.bool e,.sl 1 (p.map I),.sl 1 (l.map I)]
def u7:List Vl->List G
 | []=>[]
 | x::l=>zG x::u7 l
end
theorem zH:∀l:List Vl,u7 l=l.map zG
 | []=>rfl
 | x::l=>by rw[u7,zH l];rfl
def FL (x:Ce):G:=.st [.bool x.live,I x.arena,zG x.value]
def EJ (l:List Vl):G:=.sl 8 (l.map zG)
def Hl (x:Ac):G:=.st [I x.number,I x.routine,I x.block,I x.index,I x.dst,EJ x.slots,.sl 1 (x.since.map I)]
def PF (x:Ln):G:=.st [I x.frame,I x.slot,.bool x.excl,.bool x.re,.bool x.over]
def Ho (x:Tk):G:=.st [I x.state,.sl 7 (x.frames.map Hl),.sl 5 (x.loans.map PF),I x.allocs,I x.clock,I x.next,.sl 1 (x.cells.map I)]
def PG (x:Ou):G:=.st [I x.task,I x.number]
def Mf (i:wG) (x:Wd):G:=.st [I4 i,.st [.sl 10 (x.cells.map FL),.sl 1 (x.arenas.map .bool)],.sl 7 (x.tasks.map Ho),.sl 1 (x.channels.map EJ),.sl 2 (x.outputs.map PG),I x.made,I x.dropped,I x.closed]
theorem Mg (x:IL):mY (Hh x)=zx x:=rfl
theorem Mh (x:Slot):mY (Hj x)=iM x:=by simp only[Hj,mY,jH,iM,Ct,Fs,fq Mg,aaX,aaV,aa5]
theorem I5 (l:List Slot):mY (zF l)=nV l:=by simp only[zF,mY,nV,fq Mh]
theorem Ez (r:zw):mY (Ey r)=iT r:=by simp only[Ey,mY,jH,iT,Ct,Fs,Cu,vS,fq Iu,fq I5,aaX,aaV,aa5]
theorem PI (i:wG):mY (I4 i)=Aj i:=by simp only[I4,mY,jH,Aj,fq D8,fq Ez,aaX,aaV,aa5]
theorem Mi (i:wG):zZ (I4 i)=.agg (Aj i):=by rw[<-PI];exact GD
mutual
theorem CN:∀x:Vl,mY (zG x)=n9 x
 | .mk a b c d f e p l=>by simp only[zG,mY,jH,n9,Hp f,vS,aaX,aaV,aa5]
theorem Hp:∀l:List Vl,sI (u7 l)=Iw l
 | []=>rfl
 | x::l=>by simp only[u7,sI,Iw,CN x,Hp l]
end
theorem S6 (x:Ce):mY (FL x)=wO x:=by simp only[FL,mY,jH,wO,CN,aaX,aaV,aa5]
theorem S7 (l:List Vl):mY (EJ l)=Iy l:=by simp only[EJ,mY,Iy,fq CN]
theorem S8 (x:Ac):mY (Hl x)=Cx x:=by simp only[Hl,EJ,mY,jH,Cx,fq CN,vS,aaX,aaV,aa5]
theorem S9 (x:Ln):mY (PF x)=I6 x:=rfl
theorem Ta (x:Tk):mY (Ho x)=z8 x:=by simp only[Ho,mY,jH,z8,fq S8,fq S9,vS,aaX,aaV,aa5]
theorem Tc (x:Ou):mY (PG x)=Lh x:=rfl
theorem Td (b:Bool):mY (.bool b)=EH b:=rfl
theorem Te (i:wG) (x:Wd):mY (Mf i x)=IU i x:=by
 simp only[Mf,mY,jH,IU,uX,Sj,I4,fq D8,fq Ez,fq S6,fq Td,fq Ta,fq S7,fq Tc,aaX,aaV,aa5]
theorem PJ (i:wG) (x:Wd):zZ (Mf i x)=.agg (IU i x):=by rw[<-Te];exact GD
theorem CO {n:Nat}{g:G}(h:Ok Tryz.prog n 79 g):∃x:Ty,g=x.g:=Qk (ti:=3) (ts:=74) (by kernel_rfl) (by kernel_rfl) (by kernel_rfl) n g h
theorem FM {n:Nat}{g:G}(h:Ok Tryz.prog n 74 g):∃x:List Ty,g=.sl 3 (x.map Ty.g):=dc (e:=79) (by kernel_rfl) h fun _ _ _ a=>CO a
theorem Tf {n:Nat}{g:G}(h:Ok Tryz.prog n 76 g):∃v:Variant,g=v.g:=by
 obtain⟨m,l,f,rfl,c⟩:=eF (t:=76) (ts:=[9,74]) (by kernel_rfl) h;obtain⟨a,r,rfl,d,e⟩:=aH c;obtain⟨b,rfl,hb⟩:=mX e;obtain⟨x,rfl⟩:=Cq (by kernel_rfl) d;obtain⟨p,rfl⟩:=FM hb;exact⟨⟨x,p⟩,rfl⟩
theorem PK {n:Nat}{g:G}(h:Ok Tryz.prog n 70 g):∃x:List Variant,g=.sl 2 (x.map Variant.g):=dc (e:=76) (by kernel_rfl) h fun _ _ _ a=>Tf a
theorem Tg {n:Nat}{g:G}(h:Ok Tryz.prog n 72 g):∃d:Api.Data,g=d.g:=by
 obtain⟨m,l,u,rfl,j⟩:=eF (t:=72) (ts:=[9,3,3,70,3]) (by kernel_rfl) h;obtain⟨a,r,rfl,s,f⟩:=aH j;obtain⟨b,r,rfl,hb,f⟩:=aH f;obtain⟨c,r,rfl,k,f⟩:=aH f;obtain⟨d,r,rfl,o,f⟩:=aH f;obtain⟨e,rfl,p⟩:=mX f;obtain⟨x,rfl⟩:=Cq (by kernel_rfl) s;obtain⟨y,rfl⟩:=cE (by kernel_rfl) hb;obtain⟨z,rfl⟩:=cE (by kernel_rfl) k;obtain⟨v,rfl⟩:=PK o;obtain⟨q,rfl⟩:=cE (by kernel_rfl) p;exact⟨⟨x,y,z,v,q⟩,rfl⟩
theorem PL {n:Nat}{g:G}(h:Ok Tryz.prog n 22 g):∃x:List Api.Data,g=.sl 5 (x.map Data.g):=dc (e:=72) (by kernel_rfl) h fun _ _ _ a=>Tg a
theorem zI {n:Nat}{g:G}(h:Ok Tryz.prog n 59 g):∃l:List Int,g=.sl 1 (l.map I):=dc (e:=3) (by kernel_rfl) h fun _ _ _ a=>cE (by kernel_rfl) a
theorem Ti {n:Nat}{g:G}(h:Ok Tryz.prog n 144 g):∃x:EG,g=x.g:=by
 obtain⟨m,l,y,rfl,k⟩:=eF (t:=144) (ts:=[3,3,3,3,3,59,74]) (by kernel_rfl) h;obtain⟨a,r,rfl,v,j⟩:=aH k;obtain⟨b,r,rfl,hb,j⟩:=aH j;obtain⟨c,r,rfl,o,j⟩:=aH j;obtain⟨d,r,rfl,s,j⟩:=aH j;obtain⟨e,r,rfl,u,j⟩:=aH j;obtain⟨f,r,rfl,p,j⟩:=aH j;obtain⟨q,rfl,w⟩:=mX j;obtain⟨a,rfl⟩:=cE (by kernel_rfl) v;obtain⟨b,rfl⟩:=cE (by kernel_rfl) hb;obtain⟨c,rfl⟩:=cE (by kernel_rfl) o;obtain⟨d,rfl⟩:=cE (by kernel_rfl) s;obtain⟨e,rfl⟩:=cE (by kernel_rfl) u;obtain⟨f,rfl⟩:=zI p;obtain⟨q,rfl⟩:=FM w;exact⟨⟨a,b,c,d,e,f,q⟩,rfl⟩
theorem PN {n:Nat}{g:G}(h:Ok Tryz.prog n 140 g):∃x:Api.Term,g=x.g:=by
 obtain⟨m,l,k,rfl,e⟩:=eF (t:=140) (ts:=[3,3,59]) (by kernel_rfl) h;obtain⟨a,r,rfl,f,d⟩:=aH e;obtain⟨b,r,rfl,hb,d⟩:=aH d;obtain⟨c,rfl,j⟩:=mX d;obtain⟨a,rfl⟩:=cE (by kernel_rfl) f;obtain⟨b,rfl⟩:=cE (by kernel_rfl) hb;obtain⟨c,rfl⟩:=zI j;exact⟨⟨a,b,c⟩,rfl⟩
theorem Mj {n:Nat}{g:G}(h:Ok Tryz.prog n 142 g):∃x:Block,g=x.g:=by
 obtain⟨m,l,o,rfl,c⟩:=eF (t:=142) (ts:=[138,140]) (by kernel_rfl) h;obtain⟨a,r,rfl,d,j⟩:=aH c;obtain⟨b,rfl,hb⟩:=mX j;obtain⟨a,rfl⟩:=dc (e:=144) (sz:=7) (f:=EG.g) (by kernel_rfl) d fun _ _ _ k=>Ti k;obtain⟨b,rfl⟩:=PN hb;exact⟨⟨a,b⟩,rfl⟩
theorem PO {n:Nat}{g:G}(h:Ok Tryz.prog n 224 g):∃x:IL,g=Hh x:=by
 obtain⟨m,l,k,rfl,e⟩:=eF (t:=224) (ts:=[3,4,4]) (by kernel_rfl) h;obtain⟨a,r,rfl,f,d⟩:=aH e;obtain⟨b,r,rfl,hb,d⟩:=aH d;obtain⟨c,rfl,j⟩:=mX d;obtain⟨a,rfl⟩:=cE (by kernel_rfl) f;obtain⟨b,rfl⟩:=rG (by kernel_rfl) hb;obtain⟨c,rfl⟩:=rG (by kernel_rfl) j;exact⟨⟨a,b,c⟩,rfl⟩
theorem PU {n:Nat}{g:G}(h:Ok Tryz.prog n 148 g):∃x:Slot,g=Hj x:=by
 obtain⟨m,l,v,rfl,o⟩:=eF (t:=148) (ts:=[3,79,3,3,146]) (by kernel_rfl) h;obtain⟨a,r,rfl,u,j⟩:=aH o;obtain⟨b,r,rfl,hb,j⟩:=aH j;obtain⟨c,r,rfl,p,j⟩:=aH j;obtain⟨d,r,rfl,q,j⟩:=aH j;obtain⟨e,rfl,s⟩:=mX j;obtain⟨a,rfl⟩:=cE (by kernel_rfl) u;obtain⟨b,rfl⟩:=CO hb;obtain⟨c,rfl⟩:=cE (by kernel_rfl) p;obtain⟨d,rfl⟩:=cE (by kernel_rfl) q;obtain⟨e,rfl⟩:=dc (e:=224) (sz:=3) (f:=Hh) (by kernel_rfl) s fun _ _ _ k=>PO k;exact⟨⟨a,b,c,d,e⟩,rfl⟩
theorem Mk {n:Nat}{g:G}(h:Ok Tryz.prog n 145 g):∃x:List Slot,g=zF x:=dc (e:=148) (by kernel_rfl) h fun _ _ _ a=>PU a
theorem PV {n:Nat}{g:G}(h:Ok Tryz.prog n 83 g):∃x:zw,g=Ey x:=by
 obtain⟨m,l,z,rfl,o⟩:=eF (t:=83) (ts:=[9,74,79,59,3,80,81]) (by kernel_rfl) h;obtain⟨a,r,rfl,w,j⟩:=aH o;obtain⟨b,r,rfl,hb,j⟩:=aH j;obtain⟨c,r,rfl,p,j⟩:=aH j;obtain⟨d,r,rfl,u,j⟩:=aH j;obtain⟨e,r,rfl,v,j⟩:=aH j;obtain⟨f,r,rfl,s,j⟩:=aH j;obtain⟨q,rfl,y⟩:=mX j;obtain⟨a,rfl⟩:=Cq (by kernel_rfl) w;obtain⟨b,rfl⟩:=FM hb;obtain⟨c,rfl⟩:=CO p;obtain⟨d,rfl⟩:=zI u;obtain⟨e,rfl⟩:=cE (by kernel_rfl) v;obtain⟨f,rfl⟩:=dc (e:=142) (sz:=4) (f:=Block.g) (by kernel_rfl) s fun _ _ _ k=>Mj k;obtain⟨q,rfl⟩:=dc (e:=145) (sz:=1) (f:=zF) (by kernel_rfl) y fun _ _ _ k=>Mk k;exact⟨⟨a,b,c,d,e,f,q⟩,rfl⟩
theorem Ml {n:Nat}{g:G}(h:Ok Tryz.prog n 25 g):∃x:wG,g=I4 x:=by
 obtain⟨m,l,q,rfl,k⟩:=eF (t:=25) (ts:=[22,23,3]) (by kernel_rfl) h;obtain⟨a,r,rfl,p,d⟩:=aH k;obtain⟨b,r,rfl,hb,d⟩:=aH d;obtain⟨c,rfl,o⟩:=mX d;obtain⟨a,rfl⟩:=PL p;obtain⟨b,rfl⟩:=dc (e:=83) (sz:=9) (f:=Ey) (by kernel_rfl) hb fun _ _ _ j=>PV j;obtain⟨c,rfl⟩:=cE (by kernel_rfl) o;exact⟨⟨a,b,c⟩,rfl⟩
theorem QS:∀(n:Nat) (g:G),Ok Tryz.prog n 61 g->∃x:Vl,g=zG x:=by
 intro n
 induction n using Nat.strongRecOn with
 | _ n ih =>
  intro g y;obtain⟨m,l,hm,rfl,o⟩:=eF (t:=61) (ts:=[3,3,3,3,58,4,59,59]) (by kernel_rfl) y;obtain⟨a,r,rfl,ha,h⟩:=aH o;obtain⟨b,r,rfl,hb,h⟩:=aH h;obtain⟨c,r,rfl,s,h⟩:=aH h;obtain⟨d,r,rfl,v,h⟩:=aH h;obtain⟨e,r,rfl,z,h⟩:=aH h;obtain⟨f,r,rfl,u,h⟩:=aH h;obtain⟨p,r,rfl,w,h⟩:=aH h;obtain⟨q,rfl,hq⟩:=mX h;obtain⟨a,rfl⟩:=cE (by kernel_rfl) ha;obtain⟨b,rfl⟩:=cE (by kernel_rfl) hb;obtain⟨c,rfl⟩:=cE (by kernel_rfl) s;obtain⟨d,rfl⟩:=cE (by kernel_rfl) v;obtain⟨e,rfl⟩:=dc (e:=61) (sz:=8) (f:=zG) (by kernel_rfl) z (fun j x ad k=>ih j (by omega) x k);obtain⟨f,rfl⟩:=rG (by kernel_rfl) u;obtain⟨p,rfl⟩:=zI w;obtain⟨q,rfl⟩:=zI hq;exact⟨.mk a b c d e f p q,by rw[zG,zH]⟩
theorem QT {n:Nat}{g:G}(h:Ok Tryz.prog n 58 g):∃x:List Vl,g=EJ x:=dc (e:=61) (by kernel_rfl) h fun _ _ _ a=>QS _ _ a
theorem Ve {n:Nat}{g:G}(h:Ok Tryz.prog n 63 g):∃x:Ce,g=FL x:=by
 obtain⟨m,l,k,rfl,e⟩:=eF (t:=63) (ts:=[4,3,61]) (by kernel_rfl) h;obtain⟨a,r,rfl,f,d⟩:=aH e;obtain⟨b,r,rfl,hb,d⟩:=aH d;obtain⟨c,rfl,j⟩:=mX d;obtain⟨a,rfl⟩:=rG (by kernel_rfl) f;obtain⟨b,rfl⟩:=cE (by kernel_rfl) hb;obtain⟨c,rfl⟩:=QS _ _ j;exact⟨⟨a,b,c⟩,rfl⟩
theorem Vf {n:Nat}{g:G}(h:Ok Tryz.prog n 69 g):∃x:Ac,g=Hl x:=by
 obtain⟨m,l,w,rfl,k⟩:=eF (t:=69) (ts:=[3,3,3,3,3,58,59]) (by kernel_rfl) h;obtain⟨a,r,rfl,v,j⟩:=aH k;obtain⟨b,r,rfl,hb,j⟩:=aH j;obtain⟨c,r,rfl,o,j⟩:=aH j;obtain⟨d,r,rfl,q,j⟩:=aH j;obtain⟨e,r,rfl,u,j⟩:=aH j;obtain⟨f,r,rfl,p,j⟩:=aH j;obtain⟨g,rfl,s⟩:=mX j;obtain⟨a,rfl⟩:=cE (by kernel_rfl) v;obtain⟨b,rfl⟩:=cE (by kernel_rfl) hb;obtain⟨c,rfl⟩:=cE (by kernel_rfl) o;obtain⟨d,rfl⟩:=cE (by kernel_rfl) q;obtain⟨e,rfl⟩:=cE (by kernel_rfl) u;obtain⟨f,rfl⟩:=QT p;obtain⟨g,rfl⟩:=zI s;exact⟨⟨a,b,c,d,e,f,g⟩,rfl⟩
theorem Vg {n:Nat}{g:G}(h:Ok Tryz.prog n 129 g):∃x:Ln,g=PF x:=by
 obtain⟨m,l,s,rfl,j⟩:=eF (t:=129) (ts:=[3,3,4,4,4]) (by kernel_rfl) h;obtain⟨a,r,rfl,q,f⟩:=aH j;obtain⟨b,r,rfl,hb,f⟩:=aH f;obtain⟨c,r,rfl,k,f⟩:=aH f;obtain⟨d,r,rfl,o,f⟩:=aH f;obtain⟨e,rfl,p⟩:=mX f;obtain⟨a,rfl⟩:=cE (by kernel_rfl) q;obtain⟨b,rfl⟩:=cE (by kernel_rfl) hb;obtain⟨c,rfl⟩:=rG (by kernel_rfl) k;obtain⟨d,rfl⟩:=rG (by kernel_rfl) o;obtain⟨e,rfl⟩:=rG (by kernel_rfl) p;exact⟨⟨a,b,c,d,e⟩,rfl⟩
theorem Vh {n:Nat}{g:G}(h:Ok Tryz.prog n 67 g):∃x:Tk,g=Ho x:=by
 obtain⟨m,l,y,rfl,o⟩:=eF (t:=67) (ts:=[3,64,65,3,3,3,59]) (by kernel_rfl) h;obtain⟨a,r,rfl,w,j⟩:=aH o;obtain⟨b,r,rfl,hb,j⟩:=aH j;obtain⟨c,r,rfl,p,j⟩:=aH j;obtain⟨d,r,rfl,s,j⟩:=aH j;obtain⟨e,r,rfl,v,j⟩:=aH j;obtain⟨f,r,rfl,q,j⟩:=aH j;obtain⟨g,rfl,u⟩:=mX j;obtain⟨a,rfl⟩:=cE (by kernel_rfl) w;obtain⟨b,rfl⟩:=dc (e:=69) (sz:=7) (f:=Hl) (by kernel_rfl) hb fun _ _ _ k=>Vf k;obtain⟨c,rfl⟩:=dc (e:=129) (sz:=5) (f:=PF) (by kernel_rfl) p fun _ _ _ k=>Vg k;obtain⟨d,rfl⟩:=cE (by kernel_rfl) s;obtain⟨e,rfl⟩:=cE (by kernel_rfl) v;obtain⟨f,rfl⟩:=cE (by kernel_rfl) q;obtain⟨g,rfl⟩:=zI u;exact⟨⟨a,b,c,d,e,f,g⟩,rfl⟩
theorem Vi {n:Nat}{g:G}(h:Ok Tryz.prog n 101 g):∃x:Ou,g=PG x:=by
 obtain⟨m,l,f,rfl,c⟩:=eF (t:=101) (ts:=[3,3]) (by kernel_rfl) h;obtain⟨a,r,rfl,d,e⟩:=aH c;obtain⟨b,rfl,hb⟩:=mX e;obtain⟨a,rfl⟩:=cE (by kernel_rfl) d;obtain⟨b,rfl⟩:=cE (by kernel_rfl) hb;exact⟨⟨a,b⟩,rfl⟩
theorem Vj {n:Nat}{g:G}(h:Ok Tryz.prog n 29 g):∃(a:List Ce) (b:List Bool),g=.st [.sl 10 (a.map FL),.sl 1 (b.map .bool)]:=by
 obtain⟨m,l,o,rfl,d⟩:=eF (t:=29) (ts:=[26,27]) (by kernel_rfl) h;obtain⟨a,r,rfl,j,k⟩:=aH d;obtain⟨b,rfl,hb⟩:=mX k;obtain⟨a,rfl⟩:=dc (e:=63) (sz:=10) (f:=FL) (by kernel_rfl) j fun _ _ _ c=>Ve c;obtain⟨b,rfl⟩:=dc (e:=4) (sz:=1) (f:=G.bool) (by kernel_rfl) hb fun _ _ _ c=>rG (by kernel_rfl) c;exact⟨a,b,rfl⟩
theorem Vk {n:Nat}{g:G}(o:Ok Tryz.prog n 34 g):∃(i:wG) (x:Wd),g=Mf i x:=by
 obtain⟨m,l,hm,rfl,p⟩:=eF (t:=34) (ts:=[25,29,30,31,32,3,3,3]) (by kernel_rfl) o;obtain⟨a,r,rfl,ha,j⟩:=aH p;obtain⟨b,r,rfl,hb,j⟩:=aH j;obtain⟨c,r,rfl,s,j⟩:=aH j;obtain⟨d,r,rfl,v,j⟩:=aH j;obtain⟨e,r,rfl,y,j⟩:=aH j;obtain⟨f,r,rfl,u,j⟩:=aH j;obtain⟨g,r,rfl,w,j⟩:=aH j;obtain⟨h,rfl,q⟩:=mX j;obtain⟨a,rfl⟩:=Ml ha;obtain⟨b,z,rfl⟩:=Vj hb;obtain⟨c,rfl⟩:=dc (e:=67) (sz:=7) (f:=Ho) (by kernel_rfl) s fun _ _ _ k=>Vh k;obtain⟨d,rfl⟩:=dc (e:=58) (sz:=1) (f:=EJ) (by kernel_rfl) v fun _ _ _ k=>QT k;obtain⟨e,rfl⟩:=dc (e:=101) (sz:=2) (f:=PG) (by kernel_rfl) y fun _ _ _ k=>Vi k;obtain⟨f,rfl⟩:=cE (by kernel_rfl) u;obtain⟨g,rfl⟩:=cE (by kernel_rfl) w;obtain⟨h,rfl⟩:=cE (by kernel_rfl) q;exact⟨a,⟨b,z,c,d,e,f,g,h⟩,rfl⟩
mutual
/-- all numbers are those of their kinds -/
def zN:G->Prop
 | .int k x=>(Lit.int k x).wf=true
 | .bool _=>True
 | .str _=>True
 | .sl _ l=>rU l
 | .st l=>rU l
def rU:List G->Prop
 | []=>True
 | x::l=>zN x/\rU l
end
theorem CP:∀{l:List G},(∀x∈l,zN x)->rU l
 | [],_=>trivial
 | x::l,h=>⟨h x (List.mem_cons_self ..),CP fun y a=>h y (abb _ a)⟩
theorem EA:∀{l:List G}{x:G},rU l->x∈l->zN x
 | y::l,x,h,a=>by
  rcases aaQ.1 a with rfl | a
  ·exact h.1
  ·exact EA h.2 a
theorem FN {P:Program}:∀(n:Nat) (t:TypeId) (g:G),Ok P n t g->zN g
 | 0,t,g,h=>h.elim
 | n+1,t,g,h=>by
  unfold Ok at h;split at h
  ·obtain⟨b,rfl⟩:=h;exact trivial
  ·obtain⟨x,rfl,h⟩:=h;exact h
  ·obtain⟨s,rfl⟩:=h;exact trivial
  ·obtain⟨l,rfl,h⟩:=h;exact CP fun x a=>FN n _ x (h x a)
  ·rename_i fs _;obtain⟨l,rfl,e,h⟩:=h;refine CP fun x a=>?_;obtain⟨i,hi⟩:=List.getElem?_of_mem a;have c:=(xD.1 hi).1;have d:fs[i]?=some fs[i]:=Array.getElem?_eq_getElem (by omega);exact FN n _ x (h i _ x d hi)
  ·exact h.elim
def i64 (n:Int):Prop:=-9223372036854775808<=n/\n<=9223372036854775807
theorem Vm {n:Int}(h:zN (I n)):i64 n:=wf_i64 h
theorem Mn:∀{l:List Int},rU (l.map I)->∀n∈l,i64 n
 | m::l,h,n,a=>by
  rcases aaQ.1 a with rfl | a
  ·exact Vm h.1
  ·exact Mn h.2 n a
theorem wI {n:Int}(h:(Lit.int .i64 n).wf=true):i64 n:=wf_i64 h
theorem QU:∀n∈([]:List Int),i64 n:=fun n h=>by cases h
theorem ai {a:Int}{l:List Int}(h:i64 a) (t:∀n∈l,i64 n):∀n∈a::l,i64 n:=List.forall_mem_cons.2 ⟨h,t⟩
structure Vn (k:Kd):Prop where
 num:∀n,i64 n->(k.num n).1.length<=10
 siz:∀n:Nat,n<=1099511627776->(k.siz n).1.length<=10
theorem Mp {n:Int}(h:i64 n):zz n<128 ^ (9+1):=by
 obtain⟨a,b⟩:=h;have:zz n<18446744073709551616:=by unfold zz;split<;>omega
 exact abP this (by decide)
theorem Ze:Vn kW where
 num n h:=xO 9 _ (Mp h)
 siz n h:=xO 9 _ (Mp ⟨by omega,by omega⟩)
theorem Mq (g:G):1<=g.bulk:=by cases g<;>simp only[G.bulk]<;>omega
theorem CQ {a:Type}(g:a->G):∀l:List a,l.length<=G.aae (l.map g)
 | []=>by simp
 | x::l=>by
  have:=Mq (g x);have:=CQ g l;simp only[aaU,G.aae,aaW];omega
theorem iw {a:Type}{g:a->G}:∀{l:List a}{x:a},x∈l->(g x).bulk<=G.aae (l.map g)
 | y::l,x,h=>by
  rcases aaQ.1 h with rfl | h
  ·simp only[aaU,G.aae];omega
  ·have:=iw (g:=g) h;simp only[aaU,G.aae];omega
theorem nZ (a b:Enc):(bD a b).1.length=a.1.length+b.1.length:=by rw[nY,aaR]
theorem Mr {a:Type}{f:a->Enc}{g:a->G}:∀{l:List a},(∀x∈l,(f x).1.length<=10*(g x).bulk)->(aV f l).1.length<=10*G.aae (l.map g)
 | [],_=>by simp[aV,Mz]
 | x::l,h=>by
  have d:=h x (List.mem_cons_self ..);have c:=Mr fun y b=>h y (abb _ b);rw[aV,nZ];simp only[aaU,G.aae];omega
theorem gm {a:Type}{g:a->G}{l:List a}{x:a}(b:rU (l.map g)) (c:x∈l):zN (g x):=EA b (List.mem_map_of_mem c)
section
variable {k:Kd}(hk:Vn k)
include hk
theorem Vo (b:Bool):(oe k b).1.length<=10:=hk.num _ (by cases b<;>exact⟨by decide,by decide⟩)
theorem qy:∀{l:List Int},(∀n∈l,i64 n)->(aV k.num l).1.length<=10*l.length
 | [],_=>by simp[aV,Mz]
 | x::l,h=>by
  have c:=hk.num x (h x (List.mem_cons_self ..));have b:=qy fun y a=>h y (abb _ a);rw[aV,nZ,aaW];omega
theorem zJ:∀l:List Bool,(aV (oe k) l).1.length<=10*l.length
 | []=>by simp[aV,Mz]
 | x::l=>by
  have a:=Vo hk x;have b:=zJ l;rw[aV,nZ,aaW];omega
theorem qz {a:Type}{f:a->Enc}{g:a->G}{sz:Nat}{l:List a}(hb:(G.sl sz (l.map g)).bulk<=1099511627776) (h:∀x∈l,(f x).1.length<=10*(g x).bulk):(bT k f l).1.length<=10*(G.sl sz (l.map g)).bulk:=by
 simp only[G.bulk] at hb ⊢;have d:=CQ g l;have c:=hk.siz l.length (by omega);have b:=Mr h;rw[bT,nZ];omega
theorem CR {l:List Int}(a:rU (l.map I)) (hb:(G.sl 1 (l.map I)).bulk<=1099511627776):(bT k k.num l).1.length<=10*(G.sl 1 (l.map I)).bulk :=
 qz hk hb fun x b=>hk.num x (Mn a x b)
end
mutual
theorem Vp {k:Kd}(hk:Vn k):∀(v:Vl) (d:Int),zN (zG v)->(zG v).bulk<=1099511627776->(s8 k v d).1.length<=10*(zG v).bulk
 | .mk a b c n f e p l,d,hw,hb=>by
  simp only[zG,zN,rU] at hw;obtain⟨wa,wb,wc,wn,wf,_,wp,wl,_⟩:=hw;simp only[zG,G.bulk,G.aae] at hb ⊢;have h1:=qy hk (l:=[a,b,c,n]) (ai (wI (wa)) (ai (wI (wb)) (ai (wI (wc)) (ai (wI (wn)) QU))));have h2:=QV hk f (d-1) wf (by omega);have hfl:f.length<=G.aae (u7 f):=by rw[zH];exact CQ zG f
  have h3:=hk.siz f.length (by omega);have h4:=zJ hk [e];have h5:=CR hk wp (by simp only[G.bulk];omega);have h6:=CR hk wl (by simp only[G.bulk];omega);simp only[G.bulk] at h5 h6;have e1:(I a).bulk=1:=rfl;have e2:(I b).bulk=1:=rfl;have e3:(I c).bulk=1:=rfl;have e4:(I n).bulk=1:=rfl;simp only[aaW,abe] at h1 h4;rw[s8];simp only[nZ,Aa,abe];omega
theorem QV {k:Kd}(hk:Vn k):∀(l:List Vl) (d:Int),rU (u7 l)->G.aae (u7 l)<=1099511627776->(Ab k l d).1.length<=10*G.aae (u7 l)
 | [],d,_,_=>by simp[Ab,Mz]
 | x::xs,d,hw,hb=>by
  simp only[u7,rU] at hw;simp only[u7,G.aae] at hb ⊢;have h1:=Vp hk x d hw.1 (by omega);have h2:=QV hk xs d hw.2 (by omega);rw[Ab,nZ];omega
end
section
variable {k:Kd}(hk:Vn k)
include hk
theorem Ms (v:Vl) (a:zN (zG v)) (hb:(zG v).bulk<=1099511627776):(uV k v).1.length<=10*(zG v).bulk:=Vp hk v 60 a hb
theorem Vq (l:List Vl) (b:zN (EJ l)) (hb:(EJ l).bulk<=1099511627776):(Qo k l).1.length<=10*(EJ l).bulk:=by
 refine qz hk (g:=zG) (sz:=8) hb fun x a=>Ms hk x (gm b a) ?_;have:=iw (g:=zG) a;simp only[EJ,G.bulk] at hb;omega
theorem Zf (x:Ce) (a:zN (FL x)) (hb:(FL x).bulk<=1099511627776):(O7 k x).1.length<=10*(FL x).bulk:=by
 simp only[FL,zN,rU] at a;simp only[FL,G.bulk,G.aae] at hb ⊢;have c:=zJ hk [x.live];have b:=qy hk (l:=[x.arena]) (ai (wI a.2.1) QU);have e:=Ms hk x.value a.2.2.1 (by omega);have d:(I x.arena).bulk=1:=rfl;simp only[aaW,abe] at c b;rw[O7];simp only[nZ];omega
theorem Zg (x:Ac) (a:zN (Hl x)) (hb:(Hl x).bulk<=1099511627776):(O8 k x).1.length<=10*(Hl x).bulk:=by
 simp only[Hl,zN,rU] at a;obtain⟨c,j,d,e,m,b,h,_⟩:=a;simp only[Hl,G.bulk,G.aae] at hb ⊢;have n:=qy hk (l:=[x.number,x.routine,x.block,x.index,x.dst]) (ai (wI (c)) (ai (wI (j)) (ai (wI (d)) (ai (wI (e)) (ai (wI (m)) QU)))));have o:=Vq hk x.slots b (by omega);have f:=CR hk h (by simp only[G.bulk];omega);simp only[G.bulk] at f;simp only[aaW,abe] at n;rw[O8];simp only[nZ];omega
theorem Zh (x:Ln) (a:zN (PF x)):(O9 k x).1.length<=10*(PF x).bulk:=by
 simp only[PF,zN,rU] at a;simp only[PF,G.bulk,G.aae];have b:=qy hk (l:=[x.frame,x.slot]) (ai (wI (a.1)) (ai (wI (a.2.1)) QU));have c:=zJ hk [x.excl,x.re,x.over];simp only[aaW,abe] at b c;rw[O9];simp only[nZ];omega
theorem Zi (x:Tk) (b:zN (Ho x)) (hb:(Ho x).bulk<=1099511627776):(Pb k x).1.length<=10*(Ho x).bulk:=by
 simp only[Ho,zN,rU] at b;obtain⟨d,p,e,h,r,c,q,_⟩:=b;simp only[Ho,G.bulk,G.aae] at hb ⊢;have s:=qy hk (l:=[x.state]) (ai (wI d) QU);have m:=qz hk (f:=O8 k) (g:=Hl) (sz:=7) (l:=x.frames) (by simp only[G.bulk];omega) fun y a=>Zg hk y (gm p a) (by have:=iw (g:=Hl) a;omega);have j:=qz hk (f:=O9 k) (g:=PF) (sz:=5) (l:=x.loans) (by simp only[G.bulk];omega) fun y a=>Zh hk y (gm e a);have o:=qy hk (l:=[x.allocs,x.clock,x.next]) (ai (wI (h)) (ai (wI (r)) (ai (wI (c)) QU)));have n:=CR hk q (by simp only[G.bulk];omega);simp only[G.bulk] at m j n;simp only[aaW,abe] at s o;rw[Pb];simp only[nZ];omega
theorem Zj (x:Ou) (a:zN (PG x)):(Qp k x).1.length<=10*(PG x).bulk:=by
 simp only[PG,zN,rU] at a;simp only[PG,G.bulk,G.aae];have b:=qy hk (l:=[x.task,x.number]) (ai (wI (a.1)) (ai (wI (a.2.1)) QU));simp only[aaW,abe] at b;rw[Qp];omega
theorem Zk (i:wG) (x:Wd) (b:zN (Mf i x)) (hb:(Mf i x).bulk<=1099511627776):(oU k x).1.length<=10*(Mf i x).bulk:=by
 simp only[Mf,zN,rU] at b;obtain⟨_,⟨c,u,_⟩,o,n,t,j,q,m,_⟩:=b;simp only[Mf,G.bulk,G.aae] at hb ⊢;have h:=qz hk (f:=O7 k) (g:=FL) (sz:=10) (l:=x.cells) (by simp only[G.bulk];omega) fun y a=>Zf hk y (gm c a) (by have:=iw (g:=FL) a;omega);have d:=qz hk (f:=Tn k) (g:=G.bool) (sz:=1) (l:=x.arenas) (by simp only[G.bulk];omega) fun y a=>zJ hk [y];have p:=qz hk (f:=Pb k) (g:=Ho) (sz:=7) (l:=x.tasks) (by simp only[G.bulk];omega) fun y a=>Zi hk y (gm o a) (by have:=iw (g:=Ho) a;omega);have s:=qz hk (f:=Qo k) (g:=EJ) (sz:=1) (l:=x.channels) (by simp only[G.bulk];omega) fun y a=>Vq hk y (gm n a) (by have:=iw (g:=EJ) a;omega);have r:=qz hk (f:=Qp k) (g:=PG) (sz:=2) (l:=x.outputs) (by simp only[G.bulk];omega) fun y a=>Zj hk y (gm t a);have e:=qy hk (l:=[x.made,x.dropped,x.closed]) (ai (wI (j)) (ai (wI (q)) (ai (wI (m)) QU)));simp only[G.bulk] at h d p s r;simp only[aaW,abe] at e;rw[oU];simp only[nZ];omega
end
mutual
theorem Mt:∀v:Vl,Fu v<=(zG v).bulk
 | .mk a b c n f e p l=>by
  have:=Mu f;simp only[Fu,zG,G.bulk,G.aae];omega
theorem Mu:∀l:List Vl,Ec l<=G.aae (u7 l)
 | []=>by simp[Ec]
 | x::xs=>by
  have h1:=Mt x;have h2:=Mu xs;simp only[Ec,u7,G.aae];omega
end
theorem QW {l:List Vl}(hb:(EJ l).bulk<=1099511627776):vsB l:=fun v a=>by
 have c:=Mt v;have b:=iw (g:=zG) a;simp only[EJ,G.bulk] at hb;omega
theorem Vr (i:wG) (x:Wd) (hb:(Mf i x).bulk<=1099511627776):FD x:=by
 simp only[Mf,G.bulk,G.aae] at hb;refine⟨fun c e=>?_,fun t j f h=>?_,fun l d=>?_⟩
 ·have a:=iw (g:=FL) e;have b:=Mt c.value;simp only[FL,G.bulk,G.aae] at a;unfold Vx;omega
 ·have a:=iw (g:=Ho) j;simp only[Ho,G.bulk,G.aae] at a;have b:=iw (g:=Hl) h;simp only[Hl,G.bulk,G.aae] at b;exact QW (by omega)
 ·have a:=iw (g:=EJ) d;exact QW (by omega)
end Go.Fr.Tryz
namespace Go.Fr.Tryz
open Go Go.RowKit Go.Proofs Go.Fr Go.Fr.T Go.Fr.Api Go.Fr.Dm
theorem Tj {x:Wd}{n:Nat}(h:(oU kW x).1.length<=n):(lH x).length<=n+7:=by
 unfold lH;split
 ·rw[zE];simp[di];omega
 ·simp
theorem Zl (i:wG) (x:Wd) (a:FD x) (hb:(oU kW x).1.length<=20000000):CallsT PZ 14 [.agg (IU i x)] [] (jv [] (.sl (ak (lH x)))) :=
 (Yv _ _ _ x a (by omega)).give
theorem Mv (i:wG) (x:Wd):CallsT PZ 16 [.agg (IU i x),.agg (IU i x)] [] (jv [] (.bool true)) :=
 dF (p:=i=i/\x=x) ⟨rfl,rfl⟩▸t16 i i x x
theorem t4 (i j:wG) (x:Wd) (f:FD x) (hb:(oU kW x).1.length<=20000000):CallsT PZ 4 [.agg (IU i x),.agg (Aj j)] [] (jv [] (.bool true)):=by
 have c:=Zl i x f hb;have l:=Tj hb;have a:(lH x).length≠0->∀k:wG,CallsT PZ 10 [.agg (Aj k),.sl (ak (lH x))] [] (jv [] (.tup [.agg (IU k x),IC 0])):=fun h k=>by
  have:=Yz (k.datas.map iL) (k.routs.map iT) k.main (lH x) (by omega);rw[PE (S5 h)] at this;exact this
 have d:=aQ (bs:=lH x);generalize lH x=b at c l a d;refine aq Tryz.func4 R9 rfl fun m _=>?_;refine bM t7 rfl fun _=>?_;refine qF (t8 i x) rfl fun q _=>?_;refine af (fun _=>?_) (fun _=>?_)
 ·exact aO rfl rfl
 refine qF (t9 j) rfl fun q _=>?_;refine af (fun _=>?_) (fun _=>?_)
 ·exact aO rfl rfl
 refine bM c rfl fun _=>?_;refine aK (fun e=>?_) (fun e=>?_)
 ·exact aO rfl rfl
 have a:=a (by omega);refine bM (a i) rfl fun _=>?_;refine bM (a j) rfl fun _=>?_;refine bM (Mv i x) rfl fun _=>?_;refine bM (Mv j x) rfl fun _=>?_;exact aO rfl rfl
end Go.Fr.Tryz
namespace Go.Fr.Tryz
open Go Go.RowKit Go.Proofs Go.Fr Go.Fr.T
theorem CS {W:World}{p:Prop}(h:p):tj (qE W):=trivial
end Go.Fr.Tryz
