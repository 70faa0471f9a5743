/-
  Parts of the proof: Fw33, Fw30, Fw25, Fw36, Fw46, Pl1, Fs, Dn20, Dn21, TwS, Dn20b, Dn22, Dn24a, Dn24, Tw24: the framework (Fw), pure forms (Dn), plain laws (Pl, Th), calls of functions (Ok).
-/
import Derived.ProofKit
import Derived.Handed
import Derived.KernelRfl
import Derived.Lib.SlicesCompact
import Derived.RangeFuncBox
import Derived.RangeFuncLeaves
import Derived.Shelf.Abstract
import Derived.WalkKit
import Derived.OwnWalkIn
import Derived.TacticsInMore
import Derived.LoopNIn
import Derived.LoopIn
import Derived.Maps.AppendAt
import Derived.Shelf.Slices.CompactI
import Derived.Lib.OwnBridge
import Derived.Test.YtkhcdgkdpjahpaaGreatDoorProg
import Derived.Test.YtkhcdgkdpjahpaaGreatDoorBd1210eb9

set_option linter.all false
noncomputable section
namespace Go.mz
section
section
variable {ic:hj} {bA:Array Oper} {cF cn:Nat->List Nat}
theorem HH {aT:Type} {K:bj->Option aT} {r:aT}:∀{l:List Nat} {st:bj},yJ ic bA cF cn l st K=some r->∃t,ri ic bA cF cn l st t/\K t=some r
 |[],st,h=>⟨st,l3.refl st,h⟩
 |i::l,st,h=>by
  simp only[yJ] at h;split at h
  ·cases h
  rename_i o aJ;split at h
  ·rename_i aG;obtain⟨e,J,R,ac⟩:=Yt h;obtain⟨t,bk,bD⟩:=HH ac;exact⟨t,⟨e,⟨o,aJ,.inl ⟨by unfold mu;rw[aG],J,R⟩⟩,bk⟩,bD⟩
  ·rename_i j kn aG;split at h
   case h_2=>cases h
   rename_i gk d uv aP;split at h
   case h_3=>cases h
   case h_2=>
    rename_i q ab;cases hs:hy ic.n ic.pin d with
    |false=>rw[hs] at h;cases h
    |true=>
    rw[hs] at h;obtain⟨t,bk,bD⟩:=HH h;refine⟨t,⟨E4 d,⟨o,aJ,.inr ⟨?_,d,aP,hs,rfl⟩⟩,bk⟩,bD⟩;unfold mu;rw[aG];simp only[uv,ab]
   rename_i x ab;cases hs:hy ic.n ic.pin d with
   |false=>rw[hs] at h;cases h
   |true=>
   rw[hs] at h;simp only[cond_true] at h;have same:∀b,x=b->l3 ⟨(gk,.val .bool b)::st.g,st.h⟩ st:=fun b aa=>⟨fun k=>by
    show gt ((gk,_)::st.g) k=_;rw[jX];split
    ·rename_i e;rw[<-e,ab,aa]
    ·rfl,fun _=>rfl⟩
   split at h
   ·rename_i aa;obtain rfl:x=kn:=(by simpa using aa);obtain⟨e,J,R,ac⟩:=Yt h;obtain⟨t,bk,bD⟩:=HH ac;have bE:jb ic bA cF cn i ⟨(gk,.val .bool x)::st.g,st.h⟩ e:=by
     refine⟨o,aJ,.inl ⟨?_,J,R⟩⟩;unfold mu;rw[aG];simp only[uv,(same x rfl).g gk,ab];simp
    exact⟨t,⟨e,bE.seq (same x rfl),bk.seq ((same x rfl).app e)⟩,bD⟩
   ·rename_i aa;have SO:x=!kn:=by cases x<;>cases kn<;>first|rfl|cases aa
    obtain⟨t,bk,bD⟩:=HH h;refine⟨t,⟨E4 d,⟨o,aJ,.inr ⟨?_,d,aP,hs,rfl⟩⟩,bk.seq ((same _ SO).app (E4 d))⟩,bD⟩;unfold mu;rw[aG];simp only[uv,ab];exact aa
structure oI where
 i:Nat
 d:List Nat
 aD:List Nat
 ps:List Nat
 cF:List Nat
 cn:List Nat
def yg:List Nat->List Nat->Bool
 |[],[]=>true
 |a::l,b::r=>Nat.beq a b&&yg l r
 |_,_=>false
theorem uj:∀{l r:List Nat},yg l r=true->l=r
 |[],[],_=>rfl
 |a::l,b::r,h=>by simp only[yg,bW] at h;rw[fi h.1,uj h.2]
 |[],_::_,h=>by cases h
 |_::_,[],h=>by cases h
def u0 (bA:Array Oper) (cF cn:Nat->List Nat) (r:oI):Bool:=match bA[r.i]? with
 |some o=>yg (dl o) r.d&&yg (o.looksAt bA) r.aD&&yg (uU bA r.i) r.ps&&yg (cF r.i) r.cF&&yg (cn r.i) r.cn
 |none=>false
def Qk (x i:oI):Bool:=yb x.d i.aD&&yb x.d i.d&&yb i.d x.aD&&yc i.cn (x.d++(x.cF++x.cn))&&yc x.cn (i.d++i.cF)&&(wc x.d x.cF x.cn i.cn&&wc i.d i.cF i.cn x.cn)
theorem aly {x i:oI} (ab:u0 bA cF cn x=true) (hi:u0 bA cF cn i=true) (h:Qk x i=true):As bA cF cn x.i i.i=true:=by
 unfold u0 at ab hi;split at ab
 case h_2=>cases ab
 rename_i ze Hu;split at hi
 case h_2=>cases hi
 rename_i y7 Hs;simp only[bW] at ab hi;obtain⟨⟨⟨⟨Cu,kp⟩,az3⟩,Pn⟩,afG⟩:=ab;obtain⟨⟨⟨⟨i1,i2⟩,i3⟩,Nv⟩,aaP⟩:=hi;unfold Qk at h;rw[<-uj Cu,<-uj kp,<-uj Pn,<-uj afG,<-uj i1,<-uj i2,<-uj Nv,<-uj aaP] at h;simp only[bW] at h;obtain⟨⟨⟨⟨⟨J,R⟩,ac⟩,aL⟩,aY⟩,bG,eF⟩:=h;unfold As;simp only[Hu,Hs,aL,aY,bG,eF,Bool.and_true];have J:=yb.ok J;have R:=yb.ok R;have ac:=yb.ok ac;unfold Oper.apart;rw[bW];constructor
 ·cases aP:ze.dst with
  |none=>rfl
  |some d=>
   have iH:=J d (Ew aP);have fE:=R d (Ew aP);simp only[bW,Fm];refine⟨?_,?_⟩
   ·rw[<-Bool.not_eq_true,List.contains_iff_mem];exact iH
   ·rw[bne_iff_ne];intro e;exact fE (Ew e)
 ·cases aP:y7.dst with
  |none=>rfl
  |some d=>
   have iH:=ac d (Ew aP);simp only[Fm];rw[<-Bool.not_eq_true,List.contains_iff_mem];exact iH
def ns (m n:Nat):Bool:=Nat.beq (Nat.land (Nat.shiftRight m n) 1) 1
def PN (m n:Nat):Nat:=Nat.lor m (Nat.shiftLeft 1 n)
theorem C7 {m n:Nat}:ns m n=true↔m.testBit n=true:=by
 unfold ns;rw[Nat.testBit_eq_decide_div_mod_eq];show Nat.beq ((m>>>n)&&&1) 1=true↔_;rw[Nat.shiftRight_eq_div_pow,Nat.and_one_is_mod];constructor
 ·intro h;exact decide_eq_true (fi h)
 ·intro h;rw[of_decide_eq_true h];rfl
theorem Xs {a b n:Nat} (h:ns (Nat.lor a b) n=true):ns a n=true\/ns b n=true:=by rw[C7] at h|-;rw[C7];have:(a|||b).testBit n=true:=h;rw[Nat.testBit_or] at this;simpa using this
theorem Xr {m n k:Nat} (h:ns (PN m n) k=true):ns m k=true\/k=n:=by
 rcases Xs h with h|h
 ·exact .inl h
 ·right;rw[C7] at h;have:(1<<<n).testBit k=true:=h;rw[Nat.shiftLeft_eq,lx,Kb] at this;have:=of_decide_eq_true this;omega
theorem Ky {k:Nat} (h:ns 0 k=true):False:=by rw[C7] at h;simp at h
def FI (tb:List aCv):List Nat->Nat
 |[]=>0
 |p::ps=>Nat.lor (PN ((mz.aD tb p).getD 0) p) (FI tb ps)
theorem WU {tb:List aCv}:∀{ps:List Nat} {k:Nat},ns (FI tb ps) k=true->∃p∈ps,k=p\/∃m,mz.aD tb p=some m/\ns m k=true
 |[],_,h=>(Ky h).elim
 |p::ps,k,h=>by
  rcases Xs h with h|h
  ·refine⟨p,by simp,?_⟩;rcases Xr h with h|h
   ·cases ai:mz.aD tb p with
    |none=>rw[ai] at h;exact(Ky h).elim
    |some m=>rw[ai] at h;exact .inr ⟨m,rfl,h⟩
   ·exact .inl h
  ·obtain⟨q,aj,R⟩:=WU h;exact⟨q,by simp[aj],R⟩
def KF (n:Nat):Nat->List oI->List aCv->List oI->Bool
 |_,_,_,[]=>true
 |eR,seen,tb,r::l=>
  r.ps.all (fun p=>ns eR p)&&(seen.all fun x=>ns (FI tb r.ps) x.i||Qk x r)&&!(ns eR r.i)&&Nat.blt r.i n&&KF n (PN eR r.i) (r::seen) ((r.i,FI tb r.ps)::tb) l
def mX (L:List oI):List Nat:=L.map (·.i)
def Ap (bA:Array Oper) (cF cn:Nat->List Nat) (L:List oI):Bool:=L.all (u0 bA cF cn)&&KF bA.size 0 [] [] L&&((List.range bA.size).all fun i=>dS i (mX L))&&Nat.ble L.length bA.size
def J1 (bA:Array Oper) (D:Nat->Prop):Prop:=∀k,D k->∀p∈uU bA k,D p
theorem u0.ps {r:oI} (h:u0 bA cF cn r=true):uU bA r.i=r.ps:=by
 unfold u0 at h;split at h
 case h_2=>cases h
 simp only[bW] at h;exact uj h.1.1.2
theorem Qg:∀{l seen:List oI} {eR:Nat} {tb:List aCv},KF bA.size eR seen tb l=true->(∀r∈l,u0 bA cF cn r=true)->(∀r∈seen,u0 bA cF cn r=true)->(∀k,ns eR k=true->k∈mX seen)->(∀k∈mX seen,ns eR k=true)->(∀p q,mz.aD tb p=some q->∀D,J1 bA D->D p->∀x,ns q x=true->D x)->∀A i B,mX l=A++i::B->(∀p∈uU bA i,p∈mX seen\/p∈A)/\(∀D,J1 bA D->(∀p∈uU bA i,D p)->∀x,(x∈mX seen\/x∈A)->¬D x->As bA cF cn x i=true)/\i∉mX seen/\i∉A/\i<bA.size
 |[],_,_,_,h,_,_,_,_,ah,A,i,B,ai=>by cases A<;>cases ai
 |r::l,seen,eR,tb,h,hr,hs,ak,mQ,ah,A,i,B,ai=>by
  simp only[KF,bW,fM,Fm] at h;obtain⟨⟨⟨⟨J,R⟩,ac⟩,aL⟩,aY⟩:=h;have SB:=hr r (by simp);have D2:=u0.ps SB;have ac:r.i∉mX seen:=fun ae=>(by rw[mQ _ ae] at ac;cases ac);have bC:∀D,J1 bA D->(∀p∈uU bA r.i,D p)->∀x,ns (FI tb r.ps) x=true->D x:=by
   intro D sR aw x ab;obtain⟨p,rJ,rfl|⟨m,ux,ab⟩⟩:=WU ab
   ·exact aw _ (D2▸rJ)
   ·exact ah p m ux D sR (aw p (D2▸rJ)) x ab
  cases A with
  |nil=>
   cases ai;refine⟨fun p aw=>.inl (ak _ (J p (D2▸aw))),fun D sR aw x ab qG=>?_,ac,by simp,fQ aL⟩;rcases ab with ab|ab
   ·obtain⟨y,aB,rfl⟩:=dz.1 ab;have:=R y aB;rcases h9 _ _▸this with ak|ak
    ·exact absurd (bC D sR aw _ ak) qG
    ·exact aly (hs y aB) SB ak
   ·cases ab
  |cons a A=>
   simp only[mX,ff,mA,hL] at ai;obtain⟨rfl,ai⟩:=ai;obtain⟨bS,bt,cY,c7,g0⟩:=Qg aY (fun x ab=>hr x (by simp[ab])) (fun x ab=>by
    rcases d4.1 ab with rfl|ab
    ·exact SB
    ·exact hs x ab) (fun k ae=>by
    rcases Xr ae with ae|rfl
    ·exact gC _ (ak k ae)
    ·exact nk ..) (fun k ae=>by
    rw[C7];show(eR|||(1<<<r.i)).testBit k=true;rw[Nat.testBit_or,h9];rcases d4.1 ae with rfl|ae
    ·right;rw[Nat.shiftLeft_eq,lx,Kb];simp
    ·left;exact C7.1 (mQ k ae)) (fun p q jA D sR aw x ab=>by
    rw[dq] at jA;split at jA
    ·rename_i e;cases jA;subst e;exact bC D sR (sR _ aw) x ab
    ·exact ah p q jA D sR aw x ab) A i B ai
   refine⟨fun p aw=>?_,fun D sR aw x ab qG=>bt D sR aw x ?_ qG,fun ak=>cY (gC _ ak),fun ak=>?_,g0⟩
   ·rcases bS p aw with ak|ak
    ·rcases d4.1 ak with rfl|ak
     ·exact .inr (by simp)
     ·exact .inl ak
    ·exact .inr (by simp[ak])
   ·rcases ab with ab|ab
    ·exact .inl (gC _ ab)
    ·rcases d4.1 ab with rfl|ab
     ·exact .inl (nk ..)
     ·exact .inr ab
   ·rcases d4.1 ak with rfl|ak
    ·exact cY (nk ..)
    ·exact c7 ak
variable {E:eV} {C:eb}
theorem jb.wp (cy:ic.U E C) {i:Nat} {s:bj} {e:b7} (h:jb ic bA cF cn i s e) {a:Act} {w:World} (aq:gD C s a.tmps w) {so:Exit->Act->World->Prop} {next:Act->World->Prop} (ag:∀b9 w',b9.defers=a.defers->gD C (e.app s) b9.tmps w'->next b9 w'):wpOp E.P bA so i next a w:=by
 obtain⟨o,aJ,h⟩:=h;obtain⟨I,rt,fp,eK⟩:=id aq;unfold wpOp;simp only[aJ];rcases h with⟨hw,J,_⟩|⟨hw,d,aP,hs,rfl⟩
 ·rw[hw.ok eK,if_pos rfl];refine .inl (Ys cy J a w aq _ _ ?_);rintro s' b9 w' ⟨dI,we,rfl⟩ aP hr;cases we;exact ag b9 w' aP hr
 ·rw[hw.ok eK,if_neg (by simp),aP];exact ag _ w rfl ⟨I,rt,fp,eK.put (hy.ok cy hs) (.dh undef)⟩
def left (L:List Nat) (listed:Array Bool):List Nat:=L.filter fun i=>!listed.getD i true
theorem abu {L:List Nat} {listed:Array Bool} {A B:List Nat} {i:Nat} (h:left L listed=A++i::B) (dY:i∉A) (dZ:i∉B) (hi:i<listed.size):left L (listed.setIfInBounds i true)=A++B:=by
 have:left L (listed.setIfInBounds i true)=(left L listed).filter fun j=>!(j==i):=by
  unfold left;rw[List.filter_filter];refine Fw fun j _=>?_;by_cases ao:i=j
  ·subst ao;have:(listed.setIfInBounds i true).getD i true=true:=(by simp[Array.getD,hi]);rw[this];simp
  ·rw[getD_set_ne true ao];have:(j==i)=false:=(by simp;omega);rw[this];simp
 rw[this,h,rb,Fx (by simp)];congr 1
 ·exact rc.2 fun j ao=>by simp;rintro rfl;exact dY ao
 ·exact rc.2 fun j ao=>by simp;rintro rfl;exact dZ ao
theorem UD {i p:Nat} {o:Oper} (aJ:bA[i]?=some o):p∈uU bA i↔∃e∈o.after,Region.binds .any e=true/\e.on=p:=by
 unfold uU;rw[aJ];simp only[dz,iv,Array.mem_toList_iff];constructor
 ·rintro⟨e,⟨J,R⟩,ac⟩;exact⟨e,J,R,ac⟩
 ·rintro⟨e,J,R,ac⟩;exact⟨e,⟨J,R⟩,ac⟩
theorem aka (cy:ic.U E C) {xI:List oI} {L:List Nat} (aot:L=mX xI) (e4:Ap bA cF cn xI=true) {t:bj} {so:Exit->Act->World->Prop} {ds:List Deferred} (Zu:∀a w,a.defers=ds->gD C t a.tmps w->so .normal a w):∀(fuel:Nat) (listed:Array Bool) (a:Act) (w:World) (s:bj),listed.size=bA.size->(left L listed).length<=fuel->J1 bA (fun k=>listed.getD k true=true/\k<bA.size)->ri ic bA cF cn (left L listed) s t->gD C s a.tmps w->a.defers=ds->wpAny E.P .any bA so fuel listed a w:=by
 unfold Ap at e4;simp only[bW,fM,j9] at e4;obtain⟨⟨⟨jC,e4⟩,gn⟩,_⟩:=e4;have Js:=Qg e4 jC (by simp) (fun k ae=>(Ky ae).elim) (by simp[mX]) (fun p q h=>by cases h);rw[<-aot] at Js gn;have Eb:∀i,i<bA.size->i∈L:=fun i hi=>fd.1 (gn i hi);have an8:∀{listed:Array Bool} {k:Nat},listed.size=bA.size->k<bA.size->listed.getD k true=true->listed.getD k false=true:=(by intro listed k hs ae h;have:k<listed.size:=(by omega);simpa[Array.getD,this] using h);have adX:∀{listed:Array Bool} {i:Nat},listed.size=bA.size->i∈Region.ready .any bA listed->i<bA.size/\listed.getD i true=false/\∃o,bA[i]?=some o/\∀e∈o.after,Region.binds .any e=true->listed.getD e.on false=true:=(by intro listed i hs hi;obtain⟨J,o,aJ,R⟩:=mem_ready.1 hi;exact⟨(q7.1 aJ).1,J,o,aJ,R⟩);have first:∀{listed:Array Bool} {i:Nat} {cd:List Nat},listed.size=bA.size->left L listed=i::cd->i∈Region.ready .any bA listed:=by
  intro listed i cd hs ai;have ak:i∈left L listed:=(by rw[ai];simp);have apo:i∈L:=(iv.1 ak).1;have aR:listed.getD i true=false:=(by simpa using(iv.1 ak).2);obtain⟨A,B,wd⟩:=Fv apo;obtain⟨bS,_,_,c7,g0⟩:=Js A i B wd;obtain⟨o,aJ⟩:∃o,bA[i]?=some o:=⟨_,Fk g0⟩;refine mem_ready.2 ⟨aR,o,aJ,fun e aE aa=>?_⟩;have aw:e.on∈uU bA i:=(UD aJ).2 ⟨e,aE,aa,rfl⟩;have dY:e.on∈A:=by
   rcases bS _ aw with h|h
   ·cases h
   ·exact h
  have sX:∀x∈A,listed.getD x true=true:=by
   intro x ab;cases pe:listed.getD x true with
   |true=>rfl
   |false=>
    obtain⟨Pu,afP,Zk⟩:=Fv ab;have:left L listed=left Pu listed++x::(left afP listed++left (i::B) listed):=(by show List.filter _ L=_;rw[wd,Zk];simp only[left,rb,nj,pe,sj,mA];rfl);rw[ai] at this;cases sO:left Pu listed with
    |nil=>rw[sO] at this;cases this;exact absurd ab c7
    |cons y r=>
     rw[sO] at this;cases this;have:i∈left Pu listed:=(by rw[sO];simp);exact absurd (by rw[Zk];exact sl _ (iv.1 this).1) c7
  have ca:e.on<bA.size:=(by have:e.on∈L:=(by rw[wd];exact sl _ dY);obtain⟨afO,B',a7⟩:=Fv this;exact(Js afO e.on B' a7).2.2.2.2);exact an8 hs ca (sX _ dY)
 intro fuel
 induction fuel with
 |zero=>
  intro listed a w s hs d2 R4 eP aq aP;have qF:left L listed=[]:=PB.1 (by omega);rw[qF] at eP;refine⟨?_,Zu a w aP (aq.seq eP)⟩;cases hr:Region.ready .any bA listed with
  |nil=>rfl
  |cons i r=>
   obtain⟨J,R,_⟩:=adX hs (i:=i) (by rw[hr];simp);have:i∈left L listed:=iv.2 ⟨Eb i J,by rw[R];rfl⟩;rw[qF] at this;cases this
 |succ fuel aZ=>
  intro listed a w s hs d2 R4 eP aq aP;constructor
  ·intro hr;cases ai:left L listed with
   |nil=>rw[ai] at eP;exact Zu a w aP (aq.seq eP)
   |cons i cd=>
    have:=first hs ai
    rw[hr] at this;cases this
  ·intro i hi;obtain⟨J,R,o,aJ,ac⟩:=adX hs hi;have ak:i∈left L listed:=iv.2 ⟨Eb i J,by rw[R];rfl⟩;obtain⟨A,B,wd⟩:=Fv (Eb i J);obtain⟨_,bt,_,c7,_⟩:=Js A i B wd;have ZZ:i∉B:=by
    intro ak;obtain⟨afT,afU,dZ⟩:=Fv ak;have:=(Js (A++i::afT) i afU (by rw[wd,dZ];simp)).2.2.2.1;exact this (by simp)
   have Nl:left L listed=left A listed++i::left B listed:=(by show List.filter _ L=_;rw[wd];simp only[left,rb,nj,R];rfl);have aoV:∀x∈left A listed,As bA cF cn x i=true:=by
    intro x ab;obtain⟨aqE,aaJ⟩:=iv.1 ab;refine bt _ R4 (fun p aw=>?_) x (.inr aqE) (fun ab=>by rw[ab.1] at aaJ;cases aaJ);obtain⟨e,aE,aa,rfl⟩:=(UD aJ).1 aw;have aL:=ac e aE aa;have ca:e.on<listed.size:=by
     cases ct e.on listed.size with
     |inl h=>exact h
     |inr h=>simp[Array.getD,Nat.not_lt.2 h] at aL
    refine⟨?_,by omega⟩;simpa[Array.getD,ca] using aL
   rw[Nl] at eP;obtain⟨e,aE,aqd⟩:=ri.front aoV eP;refine aE.wp cy aq (fun b9 w' qz eK=>aZ _ b9 w' (e.app s) (by simp[hs]) ?_ ?_ ?_ eK (qz.trans aP))
   ·rw[abu Nl (fun h=>c7 (iv.1 h).1) (fun h=>ZZ (iv.1 h).1) (by omega)];rw[Nl] at d2;simp at d2|-;omega
   ·intro k ⟨nH,gI⟩ p aw;by_cases pV:i=k
    ·subst pV;obtain⟨e,aE,aa,rfl⟩:=(UD aJ).1 aw;have aL:=ac e aE aa;have ca:e.on<listed.size:=by
      cases ct e.on listed.size with
      |inl h=>exact h
      |inr h=>simp[Array.getD,Nat.not_lt.2 h] at aL
     have aY:=getD_set_true (i:=i) aL;refine⟨?_,by omega⟩;have apH:e.on<(listed.setIfInBounds i true).size:=(by simpa using ca);have aA:∀d,(listed.setIfInBounds i true).getD e.on d=(listed.setIfInBounds i true)[e.on]:=fun d=>(by simp only[Array.getD,apH,dif_pos];rfl);rw[aA] at aY|-;exact aY
    ·rw[getD_set_ne true pV] at nH;obtain⟨aY,bG⟩:=R4 k ⟨nH,gI⟩ p aw;refine⟨?_,bG⟩;by_cases Sv:i=p
     ·subst Sv;rw[R] at aY;cases aY
     ·rw[getD_set_ne true Sv];exact aY
   ·rw[abu Nl (fun h=>c7 (iv.1 h).1) (fun h=>ZZ (iv.1 h).1) (by omega)];exact aqd
theorem de.draw (apK:E.P.follows .mixedOrders=true) (cy:ic.U E C) {aT:Type} {K:bj->Option aT} {r:aT} {id:Nat} {xI:List oI} {st:bj} {cd:Exit->bj->Prop} (e4:Ap bA cF cn xI=true) (h:yJ ic bA cF cn (mX xI) st K=some r) (cA:∀s,K s=some r->cd .normal s):de E C (.region id bA true) st cd:=by
 obtain⟨t,J,R⟩:=HH h;intro a w aq aP;refine wp_region_any apK ?_;have gn:left (mX xI) (Array.replicate bA.size false)=mX xI:=(by refine rc.2 fun i hi=>?_;unfold Ap at e4;simp only[bW,fM] at e4;obtain⟨A,B,wd⟩:=Fv hi;have:=(Qg e4.1.1.2 e4.1.1.1 (by simp) (fun k ae=>(Ky ae).elim) (by simp[mX]) (fun p q h=>by cases h) A i B wd).2.2.2.2;simp[Array.getD,this]);have eA:(mX xI).length<=bA.size:=(by unfold Ap at e4;simp only[bW] at e4;rw[mX,i6];exact fQ e4.2);refine aka cy rfl e4 (t:=t) (ds:=[]) (fun b9 w' qz eK=>⟨t,cA t R,eK,qz⟩) bA.size _ a _ st (by simp) (by rw[gn];exact eA) ?_ (by rw[gn];exact J) ?_ aP
 ·intro k ⟨nH,gI⟩;simp[Array.getD,gI] at nH
 ·obtain⟨I,rt,fp,aq⟩:=aq;exact⟨I,rt,fp,aq.aob (it.refl w).drew⟩
end
end
section
inductive Wi where
 |none
 |x (l:List Nat) (dx:rj)
 |cR (l:List Nat) (dx:rj)
inductive Wk where
 |r
 |x (id:Nat) (dx:rj)
 |cR (id:Nat) (dx:rj)
inductive pD where
 |leaf
 |one (a:pD)
 |two (j:Wi) (a b:pD)
 |loop (dx:rj) (m:Wk) (a:pD)
 |keep (l:List Nat) (a:pD)
 |ik (F:List Nat) (a:pD)
 |draw (L:List oI)
def MF:List oI->Nat->List Nat
 |[],_=>[]
 |r::l,i=>bif Nat.beq r.i i then r.cF else MF l i
def N5:List oI->Nat->List Nat
 |[],_=>[]
 |r::l,i=>bif Nat.beq r.i i then r.cn else N5 l i
def XA {aT:Type} (id:Nat) (K:Exit->bj->Option aT):Exit->bj->Option aT
 |.exit j,s=>match Nat.beq j id with
  |true=>K .normal s
  |false=>K (.exit j) s
 |e,s=>K e s
def aqZ {σ:Type} (dx:bj->Option σ):Exit->bj->Option σ
 |.normal,s=>dx s
 |_,_=>none
def aq0 {σ aT:Type} (dx:bj->Option σ) (K:Exit->bj->Option aT):Exit->bj->Option (σ⊕aT)
 |.normal,s=>(dx s).map .inl
 |e,s=>(K e s).map .inr
def Jm {aT:Type} (y:bj->Option aT) (K:Exit->bj->Option aT):Exit->bj->Option aT
 |.normal,s=>y s
 |e,s=>K e s
def ar3 {σ aT:Type} (dx:bj->Option σ) (K:Exit->bj->Option aT):Exit->bj->Option (σ⊕aT)
 |.normal,s=>(dx s).map .inl
 |e,s=>(K e s).map .inr
def abC {σ τ:Type} (dx:bj->Option σ) (id:Nat) (xs:bj->Option τ):Exit->bj->Option (σ⊕τ)
 |.normal,s=>(dx s).map .inl
 |.exit j,s=>match Nat.beq j id with
  |true=>(xs s).map .inr
  |false=>none
 |_,_=>none
def abD {σ τ aT:Type} (dx:bj->Option σ) (id:Nat) (xs:bj->Option τ) (K:Exit->bj->Option aT):Exit->bj->Option (σ⊕(τ⊕aT))
 |.normal,s=>(dx s).map .inl
 |.exit j,s=>match Nat.beq j id with
  |true=>(xs s).map fun q=>.inr (.inl q)
  |false=>(K (.exit j) s).map fun q=>.inr (.inr q)
 |e,s=>(K e s).map fun q=>.inr (.inr q)
def iF:hj->pD->Code->bj->(aT:Type)->(Exit->bj->Option aT)->Option aT
 |ic,.leaf,c,st,_,K=>match c with
  |.skip=>K .normal st
  |.exit id=>K (.exit id) st
  |.ret=>K .ret st
  |.region _ bA false=>mV ic bA (List.range bA.size) st (K .normal)
  |_=>none
 |ic,.one a,c,st,aT,K=>match c with
  |.block id x=>iF ic a x st aT (XA id K)
  |_=>none
 |ic,.two j a b,c,st,aT,K=>match c with
  |.seq x y=>match j with
   |.none=>iF ic a x st aT (Jm (fun s=>iF ic b y s aT K) K)
   |.x l dx=>match yL st.g l with
    |some r=>(iF {ic with pin:=l++ic.pin,kg:=r++ic.kg} a x st dx.den (aqZ (proj dx))).bind fun q=>iF ic b y (AS {ic with pin:=l++ic.pin,kg:=r++ic.kg} dx q) aT K
    |none=>none
   |.cR l dx=>match yL st.g l with
    |some r=>(iF {ic with pin:=l++ic.pin,kg:=r++ic.kg} a x st (dx.den⊕aT) (aq0 (proj dx) K)).bind fun
     |.inl q=>iF ic b y (AS {ic with pin:=l++ic.pin,kg:=r++ic.kg} dx q) aT K
     |.inr r=>some r
    |none=>none
  |.cond t x y=>match bu st.g t with
   |.val .bool v=>match v with
    |true=>iF ic a x st aT K
    |false=>iF ic b y st aT K
   |_=>none
  |_=>none
 |ic,.loop dx m a,c,st,aT,K=>match c with
  |.loop x=>(proj dx st).bind fun kG=>match m with
   |.r=>(loop (fun s=>iF ic a x (AS ic dx s) (dx.den⊕aT) (ar3 (proj dx) K)) kG).bind some
   |.x id xv=>(loop (fun s=>iF ic a x (AS ic dx s) (dx.den⊕xv.den) (abC (proj dx) id (proj xv))) kG).bind fun q=>K (.exit id) (AS ic xv q)
   |.cR id xv=>(loop (fun s=>iF ic a x (AS ic dx s) (dx.den⊕(xv.den⊕aT)) (abD (proj dx) id (proj xv) K)) kG).bind fun
    |.inl q=>K (.exit id) (AS ic xv q)
    |.inr r=>some r
  |_=>none
 |ic,.draw L,c,st,_,K=>match c with
  |.region _ bA true=>bif Ap bA (MF L) (N5 L) L then yJ ic bA (MF L) (N5 L) (mX L) st (K .normal) else none
  |_=>none
 |ic,.ik F a,c,st,aT,K=>bif qt st.h F then iF ic a c (yl F st) aT K else none
 |ic,.keep l a,c,st,aT,K=>match yL st.g l with
  |some r=>iF {ic with pin:=l++ic.pin,kg:=r++ic.kg} a c st aT K
  |none=>none
section
variable {E:eV} {C:eb} {ic:hj} {aT:Type}
theorem de.post {kg:List (Nat×ax)} (ae:tN C kg) {c:Code} {st:bj} {cd:Exit->bj->Prop} (h:de E C c st (fun e s=>cd e s\/∃(s' Ce:bj),cd e s'/\s'=⟨kg++Ce.g,Ce.h⟩/\sx Ce.g s/\sy Ce.h s/\pg Ce.g Ce.h=true)):de E C c st cd:=
 fun a w aq aP=>wp_mono (h a w aq aP) (fun _ _ _ ⟨s,J,aY,bG⟩=>by
  rcases J with J|⟨s',Ce,J,rfl,R,ac,aL⟩
  ·exact⟨s,J,aY,bG⟩
  ·exact⟨_,J,(aY.FT R ac aL).kg ae,bG⟩)
theorem pf:∀{an:pD} {C:eb} {ic:hj} {c:Code} {st:bj} {aT:Type} {K:Exit->bj->Option aT} {r:aT} {Q:Exit->bj->Prop},ic.U E C->iF ic an c st aT K=some r->(∀e s,K e s=some r->Q e s)->de E C c st Q
 |.leaf,C,ic,c,st,aT,K,r,Q,cy,h,cA=>by
  simp only[iF] at h;split at h
  ·exact de.skip (cA _ _ h)
  ·exact de.exit (cA _ _ h)
  ·exact de.ret (cA _ _ h)
  ·exact de.region (aqN cy (fun s hs=>cA _ s hs) h)
  ·cases h
 |.one a,C,ic,c,st,aT,K,r,Q,cy,h,cA=>by
  simp only[iF] at h;split at h
  ·refine de.block (pf cy h ?_);intro e s hs;cases e with
   |exit j=>
    simp only[XA] at hs;simp only[P4];split at hs
    ·rename_i ao;rw[ao];exact cA _ _ hs
    ·rename_i ao;rw[ao];exact cA _ _ hs
   |_=>exact cA _ _ hs
  ·cases h
 |.two j a b,C,ic,c,st,aT,K,r,Q,cy,h,cA=>by
  simp only[iF] at h;split at h
  ·rename_i x y;refine de.seq ?_;split at h
   ·refine pf cy h ?_;intro e s hs;cases e with
    |normal=>exact pf cy hs cA
    |_=>exact cA _ _ hs
   ·rename_i l dx;split at h
    case h_2=>cases h
    rename_i r' ow;obtain⟨q,aj,h⟩:=dA.1 h;refine de.keep cy.2.2.2.2 ow (fun n5 J R ac aL aY=>de.post ac (pf (ic:={ic with pin:=l++ic.pin,kg:=r'++ic.kg}) ⟨cy.1,cy.2.1.trans J.symm,by rw[R,<-cy.2.2.1],⟨cy.2.2.2.1.1,aL _ cy.2.2.2.1.2.1,cy.2.2.2.1.2.2.1,aY cy.2.2.2.1.2.2.2.1,cy.2.2.2.1.2.2.2.2⟩,ac⟩ aj ?_));intro e s hs;cases e with
    |normal=>exact .inr ⟨_,_,pf cy h cA,rfl,zf hs⟩
    |_=>cases hs
   ·rename_i l dx;split at h
    case h_2=>cases h
    rename_i r' ow;obtain⟨q,aj,h⟩:=dA.1 h;refine de.keep cy.2.2.2.2 ow (fun n5 J R ac aL aY=>de.post ac (pf (ic:={ic with pin:=l++ic.pin,kg:=r'++ic.kg}) ⟨cy.1,cy.2.1.trans J.symm,by rw[R,<-cy.2.2.1],⟨cy.2.2.2.1.1,aL _ cy.2.2.2.1.2.1,cy.2.2.2.1.2.2.1,aY cy.2.2.2.1.2.2.2.1,cy.2.2.2.1.2.2.2.2⟩,ac⟩ aj ?_));intro e s hs;cases e with
    |normal=>
     obtain⟨f7,h2,fN⟩:=e1.1 hs;cases fN;exact .inr ⟨_,_,pf cy h cA,rfl,zf h2⟩
    |
     _=>
     obtain⟨f7,h2,fN⟩:=e1.1 hs;cases fN;cases h;exact .inl (cA _ _ h2)
  ·rename_i t x y;split at h
   ·rename_i v hv;refine de.cond hv (fun e=>?_) (fun e=>?_)
    ·subst e;exact pf cy h cA
    ·subst e;exact pf cy h cA
   ·cases h
  ·cases h
 |.loop dx m a,C,ic,c,st,aT,K,r,Q,cy,h,cA=>by
  simp only[iF] at h;split at h
  case h_2=>cases h
  rename_i x;obtain⟨kG,aV,h⟩:=dA.1 h;obtain⟨fy,eu,p8⟩:=zf aV;refine de.post cy.2.2.2.2 ?_;cases m with
  |r=>
   refine de.loop (mI dx) h fy eu p8 ?_;intro s o aH aJ;refine de.kg cy.2.2.2.2 (pf cy aH ?_);intro e s' hs;cases e with
   |normal=>
    obtain⟨q,h2,fN⟩:=e1.1 hs;cases fN;exact⟨rfl,zf h2⟩
   |
    _=>
    obtain⟨q,h2,fN⟩:=e1.1 hs;cases fN;cases aJ;exact⟨(fun h=>by cases h),.inl (cA _ _ h2)⟩
  |x id xv=>
   refine de.loop (mI dx) h fy eu p8 ?_;intro s o aH aJ;refine de.kg cy.2.2.2.2 (pf cy aH ?_);intro e s' hs;cases e with
   |normal=>
    obtain⟨q,h2,fN⟩:=e1.1 hs;cases fN;exact⟨rfl,zf h2⟩
   |exit j=>
    simp only[abC] at hs;split at hs
    ·rename_i ao;obtain rfl:=fi ao;obtain⟨q,h2,fN⟩:=e1.1 hs;cases fN;exact⟨(fun h=>by cases h),.inr ⟨_,_,cA _ _ aJ,rfl,zf h2⟩⟩
    ·cases hs
   |_=>cases hs
  |cR id xv=>
   refine de.loop (mI dx) h fy eu p8 ?_;intro s o aH aJ;refine de.kg cy.2.2.2.2 (pf cy aH ?_);intro e s' hs;cases e with
   |normal=>
    obtain⟨q,h2,fN⟩:=e1.1 hs;cases fN;exact⟨rfl,zf h2⟩
   |exit j=>
    simp only[abD] at hs;split at hs
    ·rename_i ao;obtain rfl:=fi ao;obtain⟨q,h2,fN⟩:=e1.1 hs;cases fN;exact⟨(fun h=>by cases h),.inr ⟨_,_,cA _ _ aJ,rfl,zf h2⟩⟩
    ·obtain⟨q,h2,fN⟩:=e1.1 hs;cases fN;cases aJ;exact⟨(fun h=>by cases h),.inl (cA _ _ h2)⟩
   |
    _=>
    obtain⟨q,h2,fN⟩:=e1.1 hs;cases fN;cases aJ;exact⟨(fun h=>by cases h),.inl (cA _ _ h2)⟩
 |.draw L,C,ic,c,st,aT,K,r,Q,cy,h,cA=>by
  simp only[iF] at h;split at h
  case h_2=>cases h
  rename_i id bA;cases aa:Ap bA (MF L) (N5 L) L with
  |false=>rw[aa] at h;cases h
  |true=>
  rw[aa] at h;exact de.draw E.mix cy aa h (fun s hs=>cA _ s hs)
 |.ik F a,C,ic,c,st,aT,K,r,Q,cy,h,cA=>by
  simp only[iF] at h;cases aa:qt st.h F with
  |false=>rw[aa] at h;cases h
  |true=>
  rw[aa] at h;intro aj1 w aq aP;obtain⟨I,rt,fp,aq⟩:=aq;exact pf cy h cA aj1 w (aq.freeze (qt.ok aa)) aP
 |.keep l a,C,ic,c,st,aT,K,r,Q,cy,h,cA=>by
  simp only[iF] at h;split at h
  case h_2=>cases h
  rename_i q aj;refine de.keep cy.2.2.2.2 aj ?_;intro n5 J R ac aL aY;exact pf (ic:={ic with pin:=l++ic.pin,kg:=q++ic.kg}) ⟨cy.1,cy.2.1.trans J.symm,by rw[R,<-cy.2.2.1],⟨cy.2.2.2.1.1,aL _ cy.2.2.2.1.2.1,cy.2.2.2.1.2.2.1,aY cy.2.2.2.1.2.2.2.1,cy.2.2.2.1.2.2.2.2⟩,ac⟩ h cA
end
end
section
def qq:Nat->(ps:List hD)->hG ps->List (Nat×ax)
 |_,[],_=>[]
 |k,.v τ::l,a=>(k,.val τ a.1)::qq (k+1) l a.2
 |k,.m _::l,a=>(k,.ref k [])::qq (k+1) l a.2
 |k,.o _::l,a=>(k,.ref k [])::qq (k+1) l a.2
 |k,.c n τs::l,a=>(k,.d1 n ((j1 τs a.1).map fun t=>.val t.1 t.2))::qq (k+1) l a.2
 |k,.n::l,a=>(k,.dh (.slice none 0 0))::qq (k+1) l a.2
 |k,.w _::l,a=>(k,.view k [] a.1.2.1 a.1.2.2)::qq (k+1) l a.2
 |k,.s _ _::l,a=>qq (k+1) l a.2
def qr:Nat->(ps:List hD)->hG ps->List (Nat×a6)
 |_,[],_=>[]
 |k,.v _::l,a=>qr (k+1) l a.2
 |k,.m τ::l,a=>(k,⟨τ,a.1⟩)::qr (k+1) l a.2
 |k,.o τ::l,a=>(k,⟨τ,a.1⟩)::qr (k+1) l a.2
 |k,.c _ _::l,a=>qr (k+1) l a.2
 |k,.n::l,a=>qr (k+1) l a.2
 |k,.w σ::l,a=>(k,⟨.osl σ,a.1.1⟩)::qr (k+1) l a.2
 |k,.s _ _::l,a=>qr (k+1) l a.2
def ly:Nat->List hD->List Nat
 |_,[]=>[]
 |k,.m _::l=>k::ly (k+1) l
 |k,.v _::l=>ly (k+1) l
 |k,.o _::l=>ly (k+1) l
 |k,.c _ _::l=>ly (k+1) l
 |k,.n::l=>ly (k+1) l
 |k,.w _::l=>k::ly (k+1) l
 |k,.s _ _::l=>ly (k+1) l
theorem PU {r:Type}:∀{k:Nat} {ps:List hD} {a:hG ps} {b:j3 ps r},kP k (f2 ps a b)=qq k ps a/\lz k (f2 ps a b)=qr k ps a/\hX k (f2 ps a b)=ly k ps/\(f2 ps a b).length=ps.length
 |k,[],a,b=>⟨rfl,rfl,rfl,rfl⟩
 |k,p::l,a,b=>by
  have aZ:=fun a b=>PU (r:=r) (k:=k+1) (ps:=l) (a:=a) (b:=b);cases p
  case m=>
   obtain⟨J,R,ac,aL⟩:=aZ a.2 b.2;simp only[f2,kP,lz,hX,qq,qr,ly,kJ,J,R,ac,aL,and_self]
  case w=>
   obtain⟨J,R,ac,aL⟩:=aZ a.2 b.2;simp only[f2,kP,lz,hX,qq,qr,ly,kJ,J,R,ac,aL,and_self]
  all_goals obtain⟨J,R,ac,aL⟩:=aZ a.2 b;simp only[f2,kP,lz,hX,qq,qr,ly,kJ,J,R,ac,aL,and_self]
def OL (tt:List (TypeId×au)) (st:bj) (τ:au):ResultVar->Option (τ.den×List Nat)
 |.tmp r=>match gt st.g r with
  |.val _ x=>(iA τ x).bind fun y=>some (y,[])
  |.dh v=>bif sA τ v then(jT τ v.cells.toList).bind fun y=>some (y,[]) else none
  |.ref id p=>match aD st.h id with
   |some t=>(il t.1 t.2 p τ).bind fun y=>some (y,[id])
   |none=>none
  |_=>none
 |.cell a T=>match aD tt T with
  |some υ=>bif bI υ τ then match gt st.g a with
   |.ref id p=>match aD st.h id with
    |some t=>match eD t.1 p with
     |some (.optr _)=>(il t.1 t.2 (p++[.deref]) τ).bind fun y=>some (y,[id])
     |_=>none
    |none=>none
   |_=>none else none
  |none=>none
def OK (tt:List (TypeId×au)) (st:bj):List ResultVar->(cp:List au)->Option (oA cp×List Nat)
 |[],[]=>some ((),[])
 |r::rs,τ::cp=>bif τ.fq then(OL tt st τ r).bind fun y=>(OK tt st rs cp).map fun q=>((y.1,q.1),y.2++q.2) else none
 |_,_=>none
theorem axy {E:eV} {st:bj} {τ:au} {r:ResultVar} {q:τ.den×List Nat} (h:OL E.tt st τ r=some q):xP E.P st ⟨τ,q.1⟩ r q.2:=by
 cases r with
 |tmp r=>
  simp only[OL] at h;simp only[xP];split at h
  ·rename_i τ' x ab;obtain⟨y,aB,h⟩:=dA.1 h;cases h;rw[ab];exact⟨l5 aB,rfl⟩
  ·rename_i v ab;cases hc:sA τ v with
   |false=>rw[hc] at h;cases h
   |true=>
   rw[hc] at h;obtain⟨y,aB,h⟩:=dA.1 h;cases h;rw[ab];exact⟨aB,sA.ok hc,rfl⟩
  ·rename_i id p ab;split at h
   case h_2=>cases h
   rename_i t ah;obtain⟨y,aB,h⟩:=dA.1 h;cases h;rw[ab];exact⟨rfl,t,ah,jy aB⟩
  ·cases h
 |cell a T=>
  simp only[OL] at h;simp only[xP];split at h
  case h_2=>cases h
  rename_i υ bm;cases ai:bI υ τ with
  |false=>rw[ai] at h;cases h
  |true=>
  rw[ai] at h;refine⟨(E.ok T υ bm).lay ai,?_⟩;simp only[cond_true] at h;split at h
  case h_2=>cases h
  rename_i id p ab;split at h
  case h_2=>cases h
  rename_i t ah;split at h
  case h_2=>cases h
  rename_i oG fZ;obtain⟨y,aB,h⟩:=dA.1 h;cases h;rw[ab];exact⟨rfl,t,oG,ah,fZ,jy aB⟩
theorem ad0 {E:eV} {st:bj}:∀{rs:List ResultVar} {cp:List au} {q:oA cp×List Nat},OK E.tt st rs cp=some q->z1 E.P st rs (j1 cp q.1) q.2
 |[],[],q,h=>by cases h;rfl
 |[],_::_,q,h=>by cases h
 |_::_,[],q,h=>by cases h
 |r::rs,τ::cp,q,h=>by
  simp only[OK] at h;cases ag:τ.fq with
  |false=>rw[ag] at h;cases h
  |true=>
  rw[ag] at h;simp only[cond_true] at h;obtain⟨y,aB,h⟩:=dA.1 h;obtain⟨f7,aj,rfl⟩:=e1.1 h;exact⟨ag,y.2,f7.2,rfl,axy aB,ad0 aj⟩
def tg (
 st:bj) {r:Type} (o:Option r):Nat->(ps:List hD)->hG ps->Option (j3 ps r)
 |_,[],_=>o
 |k,.v _::l,a=>tg st o (k+1) l a.2
 |k,.o _::l,a=>tg st o (k+1) l a.2
 |k,.c _ _::l,a=>tg st o (k+1) l a.2
 |k,.n::l,a=>tg st o (k+1) l a.2
 |k,.s _ _::l,a=>tg st o (k+1) l a.2
 |k,.m τ::l,a=>bif xX (.ref k []) (gt st.g k)&&(τ.fq&&xu τ) then match aD st.h k with
  |some t=>match iA τ t.2 with
   |some y=>(tg st o (k+1) l a.2).map fun q=>(y,q)
   |none=>none
  |none=>none else none
 |k,.w σ::l,a=>match gt st.g k with
  |.view j [] lo hi=>bif Nat.beq k j&&σ.fq then match aD st.h k with
   |some t=>match iA (.osl σ) t.2 with
    |some y=>bif Nat.beq lo a.1.2.1&&(Nat.beq hi a.1.2.2&&(Nat.beq (List.length (α:=σ.den) y) (List.length (α:=σ.den) a.1.1)&&Nat.blt lo hi)) then(tg st o (k+1) l a.2).map fun q=>(y,q) else none
    |none=>none
   |none=>none else none
  |_=>none
theorem y2 {st:bj} {r:Type} {o:Option r}:∀{k:Nat} {ps:List hD} {a:hG ps} {b:j3 ps r},tg st o k ps a=some b->tU st k (f2 ps a b)/\o=some (iY ps b)
 |k,[],a,b,h=>⟨trivial,h⟩
 |k,.v _::l,a,b,h=>y2 (ps:=l) h
 |k,.o _::l,a,b,h=>y2 (ps:=l) h
 |k,.c _ _::l,a,b,h=>y2 (ps:=l) h
 |k,.n::l,a,b,h=>y2 (ps:=l) h
 |k,.s _ _::l,a,b,h=>y2 (ps:=l) h
 |k,.m τ::l,a,b,h=>by
  simp only[tg] at h;cases aa:(xX (.ref k []) (gt st.g k)&&(τ.fq&&xu τ)) with
  |false=>rw[aa] at h;cases h
  |true=>
  rw[aa] at h;simp only[bW] at aa;simp only[cond_true] at h;split at h
  case h_2=>cases h
  rename_i t ah;split at h
  case h_2=>cases h
  rename_i y aB;obtain⟨q,aj,rfl⟩:=e1.1 h;obtain⟨J,R⟩:=y2 (a:=a.2) aj;refine⟨⟨⟨(xX.ok aa.1).symm,?_,aa.2.1,aa.2.2⟩,J⟩,R⟩;rw[ah];exact congrArg some (l5 aB)
 |k,.w σ::l,a,b,h=>by
  simp only[tg] at h;split at h
  case h_2=>cases h
  rename_i j lo hi aG;cases aa:(Nat.beq k j&&σ.fq) with
  |false=>rw[aa] at h;cases h
  |true=>
  rw[aa] at h;simp only[bW] at aa;obtain rfl:=fi aa.1;simp only[cond_true] at h;split at h
  case h_2=>cases h
  rename_i t ah;split at h
  case h_2=>cases h
  rename_i y aB;cases hc:(Nat.beq lo a.1.2.1&&(Nat.beq hi a.1.2.2&&(Nat.beq (List.length (α:=σ.den) y) (List.length (α:=σ.den) a.1.1)&&Nat.blt lo hi))) with
  |false=>rw[hc] at h;cases h
  |true=>
  rw[hc] at h;simp only[bW] at hc;obtain⟨da,cw,ju,lB⟩:=hc;have da:=fi da;have cw:=fi cw;have lB:lo<hi:=fQ lB;obtain⟨q,aj,rfl⟩:=e1.1 h;obtain⟨J,R⟩:=y2 (a:=a.2) aj;refine⟨⟨⟨by rw[aG,da,cw],?_,⟨aa.2,by omega⟩,fi ju⟩,J⟩,R⟩;rw[ah];exact congrArg some (l5 aB)
def Mw (tt:List (TypeId×au)) (ps:List hD) (rs:List ResultVar) (cp:List au) (a:hG ps) (st:bj):Option (j3 ps (oA cp)):=
 match OK tt st rs cp with
 |some q=>bif kF (ly 0 ps++q.2) then tg st (some q.1) 0 ps a else none
 |none=>none
theorem YS {E:eV} {ps:List hD} {rs:List ResultVar} {cp:List au} {st:bj} {a:hG ps} {b:j3 ps (oA cp)} {e:Exit} (aE:e=.normal\/e=.ret) (h:Mw E.tt ps rs cp a st=some b):Wd E.P (f2 ps a b) rs (j1 cp (iY ps b)) e st:=by
 unfold Mw at h;split at h
 case h_2=>cases h
 rename_i q aj;cases aa:kF (ly 0 ps++q.2) with
 |false=>rw[aa] at h;cases h
 |true=>
 rw[aa] at h;simp only[cond_true] at h;obtain⟨J,R⟩:=y2 (a:=a) h;refine⟨aE,q.2,?_,?_,J⟩
 ·rw[<-fH R];exact ad0 aj
 ·rw[(PU (k:=0) (ps:=ps) (a:=a) (b:=b)).2.2.1];exact aa
def YT (tt:List (TypeId×au)) (ps:List hD) (rs:List ResultVar) (cp:List au) (a:hG ps):Exit->bj->Option (j3 ps (oA cp))
 |.normal,s=>Mw tt ps rs cp a s
 |.ret,s=>Mw tt ps rs cp a s
 |_,_=>none
def Nw (ic:hj) (an:pD) (c:Code) (ps:List hD) (rs:List ResultVar) (cp:List au) (a:hG ps):Option (j3 ps (oA cp)):=
 iF ic an c ⟨qq 0 ps a,qr 0 ps a⟩ _ (YT ic.tt ps rs cp a)
section
variable {E:eV}
theorem bg.acq {f:Nat} {fn:Func} {ps:List hD} {rs:List ResultVar} {cp:List au} {nW:hG ps->Option (j3 ps (oA cp))} (r7:List (Nat×bh)) (own:List (Nat×au)) (ik:List aCv) (an:pD) (bz:List TypeId) (apa:∀T∈bz,Wc E.P T) (aH:E.P.funcs[f]?=some fn) (aa:fn.body.isSome=true) (uB:fn.results=rs.toArray) (ag:Nat.ble ps.length fn.ntmps=true) (pT:∀(vs:Array Value) (w:World),(callFunc f vs).run E.P w=.ok (.enter f vs) w) (ah:∀q∈r7,bg E q.2) (h:∀a,Nw ⟨E.tt,r7,own,fn.ntmps,ly 0 ps++r3 (lr 0 ps),[],ik,lr 0 ps,bz,[],E.glob⟩ an (fn.body.getD .skip) ps rs cp a=nW a):bg E ⟨f,ps,cp,nW⟩:=by
 refine⟨pT,fun a b o6=>?_⟩;rw[show(bh.mk f ps cp nW).nW a=nW a from rfl,<-h a] at o6;obtain⟨aA,aX,bY,e7⟩:=PU (k:=0) (ps:=ps) (a:=a) (b:=b);refine xB.atJ aH (c:=fn.body.getD .skip) (by cases hc:fn.body with|none=>rw[hc] at aa;cases aa|some c=>rfl) uB (by rw[e7];exact fQ ag) ?_;intro C sQ aw Sh D5 M3;rw[aA,aX];rw[Jl] at aw D5;rw[bY] at aw;refine pf (ic:=⟨E.tt,r7,own,fn.ntmps,ly 0 ps++r3 (lr 0 ps),[],ik,lr 0 ps,bz,[],E.glob⟩) ⟨rfl,sQ.symm,aw.symm,⟨ah,D5,apa,M3,rfl⟩,tN.nil Sh⟩ o6 ?_;intro e s hs;cases e with
 |normal=>exact YS (.inl rfl) hs
 |ret=>exact YS (.inr rfl) hs
 |_=>cases hs
theorem bg.of {f:Nat} {fn:Func} {ps:List hD} {rs:List ResultVar} {cp:List au} {nW:hG ps->Option (j3 ps (oA cp))} (r7:List (Nat×bh)) (own:List (Nat×au)) (ik:List aCv) (an:pD) (aH:E.P.funcs[f]?=some fn) (aa:fn.body.isSome=true) (uB:fn.results=rs.toArray) (ag:Nat.ble ps.length fn.ntmps=true) (pT:∀(vs:Array Value) (w:World),(callFunc f vs).run E.P w=.ok (.enter f vs) w) (ah:∀q∈r7,bg E q.2) (h:∀a,Nw ⟨E.tt,r7,own,fn.ntmps,ly 0 ps++r3 (lr 0 ps),[],ik,lr 0 ps,[],[],E.glob⟩ an (fn.body.getD .skip) ps rs cp a=nW a):bg E ⟨f,ps,cp,nW⟩:=
 bg.acq r7 own ik an [] (fun _ h=>by cases h) aH aa uB ag pT ah h
def OT:Code->Code
 |.seq x _=>x
 |c=>c
def aeC:Code->Code
 |.seq _ y=>y
 |c=>c
def B9 (n:Nat):Code->Option (Array Oper)
 |.region k bA _=>if k=n then some bA else none
 |.seq x y=>(B9 n x).orElse fun _=>B9 n y
 |.cond _ x y=>(B9 n x).orElse fun _=>B9 n y
 |.block _ x=>B9 n x
 |.loop x=>B9 n x
 |_=>none
theorem SS {ic:hj} {aT:Type} {bA:Array Oper} {l2:List Nat} {K:bj->Option aT}:∀(dp:List Nat) (st:bj),mV ic bA (dp++l2) st K=mV ic bA dp st fun s=>mV ic bA l2 s K
 |[],st=>rfl
 |i::l,st=>by
  have aZ:(fun s=>mV ic bA (l++l2) s K)=fun s=>mV ic bA l s fun s=>mV ic bA l2 s K:=funext fun s=>SS l s;simp only[mA,mV];split
  ·rfl
  split
  ·rw[aZ]
  ·simp only[aZ,SS l]
theorem aoa {P:Program} {tt:List (TypeId×au)} (yC:∀T τ,aD tt T=some τ->eB P τ T) {g:z8} {S:TypeId} (J:P.underlying g.T=some (.array g.xs.length S)) (R:aD tt S=some (.int g.k)):∀x∈[g],Ww P x:=fun x ab=>by rw[fh] at ab;subst ab;exact⟨S,J,yC _ _ R⟩
theorem ae0:∀q∈([]:List (Nat×bh)),bg E q.2:=fun _ h=>by cases h
theorem aze {k:Nat} {G:bh} {l:List (Nat×bh)} (J:bg E G) (R:∀q∈l,bg E q.2):∀q∈(k,G)::l,bg E q.2:=fun q h=>by
 rcases d4.1 h with rfl|h
 ·exact J
 ·exact R q h
end
def CF:Value->Value->Bool
 |.int k a,.int c0 b=>if k=c0/\a=b then true else false
 |.bool a,.bool b=>a==b
 |.string a,.string b=>a.data.toList.isEmpty&&b.data.toList.isEmpty
 |.slice none 0 0,.slice none 0 0=>true
 |.map none,.map none=>true
 |.pointer none,.pointer none=>true
 |_,_=>false
theorem Xn {a:ByteArray} (h:a.data.toList.isEmpty=true):a=ByteArray.empty:=by
 cases a with|mk d=>cases d with|mk l=>cases l with
  |nil=>rfl
  |cons=>cases h
theorem CF.ok {a b:Value} (h:CF a b=true):a=b:=by
 unfold CF at h;split at h
 ·split at h
  ·rename_i ay;obtain⟨rfl,rfl⟩:=ay;rfl
  ·cases h
 ·rw[beq_iff_eq.1 h]
 ·simp only[bW] at h;rw[Xn h.1,Xn h.2]
 ·rfl
 ·rfl
 ·rfl
 ·cases h
def CG:List Value->List Value->Bool
 |[],[]=>true
 |a::l,b::r=>CF a b&&CG l r
 |_,_=>false
theorem CG.ok:∀{l r:List Value},CG l r=true->l=r
 |[],[],_=>rfl
 |[],_::_,h=>by cases h
 |_::_,[],h=>by cases h
 |a::l,b::r,h=>by simp only[CG,bW] at h;rw[CF.ok h.1,CG.ok h.2]
def lg (P:Program) (T:TypeId) (b:Nat) (z:Value):Bool:=match P.info? T with
 |some i=>Nat.beq i.size 1&&Nat.ble i.bytes b&&(match i.zero with|some y=>CF y z|none=>false)
 |none=>false
theorem lg.ok {P:Program} {T:TypeId} {b:Nat} {z:Value} (h:lg P T b z=true):∃i,P.info? T=some i/\i.size=1/\i.bytes<=b/\i.zero=some z:=by
 unfold lg at h;split at h
 case h_2=>cases h
 rename_i i hi;simp only[bW] at h;obtain⟨⟨J,R⟩,ac⟩:=h;split at ac
 case h_2=>cases ac
 rename_i y aB;exact⟨i,hi,fi J,fQ R,by rw[aB,CF.ok ac]⟩
mutual
def ir (P:Program):au->TypeId->Bool
 |.int k,T=>lg P T 24 (.int k 0)&&(match P.underlying T with|some (.int c0)=>if c0=k then true else false|_=>false)
 |.bool,T=>lg P T 24 (.bool false)&&(match P.underlying T with|some .bool=>true|_=>false)
 |.str,T=>lg P T 24 (.string ByteArray.empty)&&(match P.underlying T with|some .string=>true|_=>false)
 |.bM _ t,T=>lg P T 24 (.slice none 0 0)&&(match P.underlying T with|some (.slice S)=>ir P t S|_=>false)
 |.osl t,T=>lg P T 24 (.slice none 0 0)&&(match P.underlying T with|some (.slice S)=>ir P t S|_=>false)
 |.ptr _ t,T=>lg P T 24 (.pointer none)&&(match P.underlying T with|some (.pointer S)=>ir P t S|_=>false)
 |.optr t,T=>lg P T 24 (.pointer none)&&(match P.underlying T with|some (.pointer S)=>ir P t S|_=>false)
 |.mp t,T=>lg P T 24 (.map none)&&(match P.underlying T with|some (.map K S)=>(match P.underlying K with|some (.int .i64)=>ir P t S|_=>false)|_=>false)
 |.ey _ t,T=>lg P T 24 (.map none)&&(match P.underlying T with|some (.map K S)=>(match P.underlying K with|some (.int .i64)=>ir P t S|_=>false)|_=>false)
 |.st t,T=>Nat.blt 0 t.size&&match P.info? T with
  |some i=>Nat.beq i.size t.size&&Nat.ble i.bytes (24*t.size)&&(match i.zero with
   |some (.agg zs)=>Nat.beq zs.size t.size&&(match P.underlying T with|some (.struct fs)=>yj P t fs.toList 0 zs.toList|_=>false)
   |_=>false)
  |none=>false
 |_,_=>false
def yj (P:Program):au->List Field->Nat->List Value->Bool
 |.pr a b,f::r,off,zs=>Nat.beq f.offset off&&ir P a f.type&&Nat.blt 0 a.size&&(match P.info? f.type with|some i=>(match i.zero with|some z=>CG (zs.take a.size) z.cells.toList|none=>false)|none=>false)&&yj P b r (off+a.size) (zs.drop a.size)
 |.nil,[],_,zs=>zs.isEmpty
 |_,_,_,_=>false
end
mutual
theorem ir.ok {P:Program}:∀{τ:au} {T:TypeId},ir P τ T=true->eB P τ T
 |.int k,T,h=>by
  simp only[ir,bW] at h;obtain⟨J,R⟩:=h;obtain⟨i,aN,aM,bb,bH⟩:=lg.ok J;split at R
  ·rename_i c0 aR;split at R
   ·rename_i e;subst e;exact⟨i,aN,aM,bb,bH,aR⟩
   ·cases R
  ·cases R
 |.bool,T,h=>by
  simp only[ir,bW] at h;obtain⟨J,R⟩:=h;obtain⟨i,aN,aM,bb,bH⟩:=lg.ok J;split at R
  ·rename_i aR;exact⟨i,aN,aM,bb,bH,aR⟩
  ·cases R
 |.str,T,h=>by
  simp only[ir,bW] at h;obtain⟨J,R⟩:=h;obtain⟨i,aN,aM,bb,bH⟩:=lg.ok J;split at R
  ·rename_i aR;exact⟨i,aN,aM,bb,bH,aR⟩
  ·cases R
 |.bM _ t,T,h=>by
  simp only[ir,bW] at h;obtain⟨J,R⟩:=h;obtain⟨i,aN,aM,bb,bH⟩:=lg.ok J;split at R
  ·rename_i S aR;exact⟨i,S,aN,aM,bb,bH,aR,ir.ok R⟩
  ·cases R
 |.osl t,T,h=>by
  simp only[ir,bW] at h;obtain⟨J,R⟩:=h;obtain⟨i,aN,aM,bb,bH⟩:=lg.ok J;split at R
  ·rename_i S aR;exact⟨i,S,aN,aM,bb,bH,aR,ir.ok R⟩
  ·cases R
 |.ptr _ t,T,h=>by
  simp only[ir,bW] at h;obtain⟨J,R⟩:=h;obtain⟨i,aN,aM,bb,bH⟩:=lg.ok J;split at R
  ·rename_i S aR;exact⟨i,S,aN,aM,bb,bH,aR,ir.ok R⟩
  ·cases R
 |.optr t,T,h=>by
  simp only[ir,bW] at h;obtain⟨J,R⟩:=h;obtain⟨i,aN,aM,bb,bH⟩:=lg.ok J;split at R
  ·rename_i S aR;exact⟨i,S,aN,aM,bb,bH,aR,ir.ok R⟩
  ·cases R
 |.mp t,T,h=>by
  simp only[ir,bW] at h;obtain⟨J,R⟩:=h;obtain⟨i,aN,aM,bb,bH⟩:=lg.ok J;split at R
  ·rename_i K S aR;split at R
   ·rename_i ae;exact⟨i,K,S,aN,aM,bb,bH,aR,ae,ir.ok R⟩
   ·cases R
  ·cases R
 |.ey _ t,T,h=>by
  simp only[ir,bW] at h;obtain⟨J,R⟩:=h;obtain⟨i,aN,aM,bb,bH⟩:=lg.ok J;split at R
  ·rename_i K S aR;split at R
   ·rename_i ae;exact⟨i,K,S,aN,aM,bb,bH,aR,ae,ir.ok R⟩
   ·cases R
  ·cases R
 |.st t,T,h=>by
  simp only[ir,bW] at h;obtain⟨aV,h⟩:=h;split at h
  case h_2=>cases h
  rename_i i hi;simp only[bW] at h;obtain⟨⟨J,R⟩,h⟩:=h;split at h
  case h_2=>cases h
  rename_i zs a2;simp only[bW] at h;obtain⟨ac,h⟩:=h;split at h
  case h_2=>cases h
  rename_i fs aR;exact⟨fQ aV,i,fs,zs,hi,fi J,fQ R,a2,aR,yj.ok h,fi ac⟩
 |.pr _ _,_,h=>by cases h
 |.nil,_,h=>by cases h
 |.dG,_,h=>by cases h
theorem yj.ok {P:Program}:∀{τ:au} {fs:List Field} {off:Nat} {zs:List Value},yj P τ fs off zs=true->jL P τ fs off zs
 |.pr a b,[],off,zs,h=>by cases h
 |.pr a b,f::r,off,zs,h=>by
  simp only[yj,bW] at h;obtain⟨⟨⟨⟨J,R⟩,ac⟩,aL⟩,aY⟩:=h;split at aL
  case h_2=>cases aL
  rename_i i hi;split at aL
  case h_2=>cases aL
  rename_i z a2;exact⟨fi J,ir.ok R,fQ ac,⟨i,z,hi,a2,CG.ok aL⟩,yj.ok aY⟩
 |.nil,[],off,zs,h=>by have h:zs=[]:=(by simpa[yj] using h);exact h
 |.nil,_::_,off,zs,h=>by cases h
 |.int _,fs,off,zs,h=>by cases fs<;>cases h
 |.bool,fs,off,zs,h=>by cases fs<;>cases h
 |.str,fs,off,zs,h=>by cases fs<;>cases h
 |.bM _ _,fs,off,zs,h=>by cases fs<;>cases h
 |.ptr _ _,fs,off,zs,h=>by cases fs<;>cases h
 |.osl _,fs,off,zs,h=>by cases fs<;>cases h
 |.optr _,fs,off,zs,h=>by cases fs<;>cases h
 |.st _,fs,off,zs,h=>by cases fs<;>cases h
 |.dG,fs,off,zs,h=>by cases fs<;>cases h
end
theorem afb {P:Program}:∀{tt:List (TypeId×au)},(tt.all fun q=>ir P q.2 q.1)=true->∀T τ,aD tt T=some τ->eB P τ T
 |[],_,_,_,h=>by cases h
 |(k,σ)::r,h,T,τ,ai=>by
  simp only[zS,bW] at h;rw[dq] at ai;split at ai
  ·rename_i e;cases ai;subst e;exact ir.ok h.1
  ·exact afb (by simpa using h.2) T τ ai
end
section
def tX:(τ:au)->τ.den->Prop
 |.int k,n=>(Lit.int k n).wf=true
 |.bM _ t,xs=>xs.length<=maxLen/\∀x∈xs,tX t x
 |.ptr _ t,x=>∀y,x=some y->tX t y
 |.st t,x=>tX t x
 |.pr a b,x=>tX a x.1/\tX b x.2
 |_,_=>True
def xW:au->Bool
 |.int _|.bool|.str|.nil=>true
 |.bM _ t|.ptr _ t|.st t=>xW t
 |.pr a b=>xW a&&xW b
 |_=>false
theorem Qe {P:Program} {τ:au} {T:TypeId} (h:eB P τ T):P.cellsOf T=τ.size:=by obtain⟨i,d,hi,_⟩:=h.info;unfold Program.cellsOf;rw[hi.info];simp[hi.size]
section
variable {H:Type} {enc:TypeId×Value->H} {P:Program} {w:World}
theorem Qf {base:Nat} {a:Addr} {n:Nat} {cs:List Value} (h:w.cells? base a n=some cs) (ag:0<n):a.spot=none/\cs.length=n/\a.block<w.heap.size/\eI w a.block a.off cs:=by
 have ca:=World.cells?_block h ag;obtain⟨_,ai,aG⟩:=World.cells?_some h;have me:a.spot=none:=by
  have aV:=aG 0 ag;have:(w.cell? (a.add 0)).isSome=true:=(by rw[aV];simp[cr (show 0<cs.length by omega)]);simp only[Addr.add,if_true] at this;unfold World.cell? at this;split at this
  ·cases hs:a.spot with
   |none=>rfl
   |some x=>rw[hs] at this;simp at this
  ·cases this
 refine⟨me,ai,ca,fun j v ao=>?_⟩;have lH:j<n:=(by rw[<-ai];exact(fu.1 ao).1);have:=aG j lH;rw[ao] at this;rw[<-this];congr 1;unfold Addr.add;obtain⟨b,o,r4⟩:=a;simp only at me;subst me;split
 ·rename_i aV;subst aV;rfl
 ·rfl
def Kc (w:World):dE->Nat->Prop:=fun _ b=>b<w.heap.size
mutual
theorem O6:∀{τ:au} {T:TypeId} {cs:List Value} {fuel:Nat} {x:DataW H×List MemPlace},xW τ=true->eB P τ T->DataW.trod enc P w 0 (fun _=>true) true fuel T cs=some x->∃y:τ.den,br (Kc w) w τ cs y []/\tX τ y
 |.int k,T,cs,fuel,x,_,⟨i,_,_,_,_,aR⟩,h=>by obtain⟨n,rfl,_,hw⟩:=DataW.trod_int aR h;exact⟨n,⟨rfl,rfl⟩,hw⟩
 |.bool,T,cs,fuel,x,_,⟨i,_,_,_,_,aR⟩,h=>by obtain⟨b,rfl,_⟩:=DataW.trod_bool aR h;exact⟨b,⟨rfl,rfl⟩,trivial⟩
 |.str,T,cs,fuel,x,_,⟨i,_,_,_,_,aR⟩,h=>by obtain⟨s,rfl,_,_⟩:=DataW.trod_string aR h;exact⟨s,⟨rfl,rfl⟩,trivial⟩
 |.bM m t,T,cs,fuel,x,aC,⟨i,S,_,_,_,_,aR,ah⟩,h=>by
  rcases DataW.trod_slice aR h with⟨rfl,_⟩|⟨a,len,cap,Yx,dT,n,rfl,rfl,_,_,apB,aBh,nD,nG,_⟩
  ·exact⟨[],⟨rfl,none,0,rfl,bU _,fun _=>rfl,.inl rfl⟩,by simp[maxLen],by simp⟩
  have hc:=Qe ah;have mS:=ah.pos;have Yv:∀i,i<len->∃y:t.den,∃ds:List Value,ds.length=t.size/\w.cells? 0 (a.add (i*t.size)) t.size=some ds/\br (Kc w) w t ds y []/\tX t y:=by
   intro i hi;have J:=nG i hi;have R:Yx[i]?=some (Yx[i]'(by omega)):=cr _
   rw[R] at J;obtain⟨ds,ac,aL⟩:=dA.1 J;rw[hc] at ac;obtain⟨y,aB,hr⟩:=O6 (τ:=t) aC ah aL;exact⟨y,ds,aB.len,ac,aB,hr⟩
  have apF:∀k,k<=len->∃xs:List t.den,xs.length=k/\∀(i:Nat) (y:t.den),xs[i]?=some y->∃ds:List Value,ds.length=t.size/\w.cells? 0 (a.add (i*t.size)) t.size=some ds/\br (Kc w) w t ds y []/\tX t y:=by
   intro k
   induction k with
   |zero=>intro _;exact⟨[],rfl,fun i y h=>by simp at h⟩
   |succ k aZ=>
    intro ae;obtain⟨xs,J,R⟩:=aZ (by omega);obtain⟨y,ds,ac⟩:=Yv k (by omega);refine⟨xs++[y],by simp[J],fun i z a2=>?_⟩;rcases ct i xs.length with hi|hi
    ·rw[sk hi] at a2;exact R i z a2
    ·rw[tR hi] at a2;have apt:i=k:=by
      have:=(fu.1 a2).1;simp at this;omega
     subst apt;rw[J,Nat.sub_self] at a2;simp only[lX,cS] at a2;subst a2;exact⟨ds,ac⟩
  obtain⟨xs,J,R⟩:=apF len (bU _);refine⟨xs,⟨rfl,some a,cap,by rw[J],by rw[J];exact apB,(fun h=>by cases h),?_⟩,by rw[J];omega,fun y aB=>?_⟩
  ·cases len with
   |zero=>exact .inl (PB.1 J)
   |succ len=>
    right;obtain⟨fP,ye,_,o7,_⟩:=Yv 0 (by omega);have aoH:a.add (0*t.size)=a:=(by simp[Addr.add]);rw[aoH] at o7;obtain⟨me,_,ca,_⟩:=Qf o7 mS;refine⟨a.block,a.off,by obtain⟨b,o,r4⟩:=a;simp only at me;subst me;rfl,ca,fun i y aB=>?_⟩;obtain⟨ds,cK,cG,c9,_⟩:=R i y aB;obtain⟨_,_,_,kh⟩:=Qf cG mS;refine⟨ds,cK,?_,c9⟩;have aA:(a.add (i*t.size)).block=a.block:=(by unfold Addr.add;split<;>rfl);have aX:(a.add (i*t.size)).off=a.off+i*t.size:=by
     unfold Addr.add;split
     ·rename_i aV;rw[aV];rfl
     ·rfl
    rw[aA,aX] at kh;exact kh
  ·obtain⟨i,hi,rfl⟩:=jO.1 aB;obtain⟨_,_,_,_,hr⟩:=R i _ (cr hi);exact hr
 |.ptr m t,T,cs,fuel,x,aC,⟨i,S,_,_,_,_,aR,ah⟩,h=>by
  rcases DataW.trod_pointer aR h with⟨rfl,_⟩|⟨a,cc,y,n,rfl,rfl,_,ac,aL⟩
  ·exact⟨none,⟨rfl,rfl⟩,fun y h=>by cases h⟩
  rw[Qe ah] at ac;obtain⟨z,a2,hr⟩:=O6 (τ:=t) aC ah aL;obtain⟨me,_,ca,kh⟩:=Qf ac ah.pos;refine⟨some z,⟨rfl,a.block,a.off,cc,by obtain⟨b,o,r4⟩:=a;simp only at me;subst me;rfl,ca,a2.len,kh,a2⟩,fun y h=>by cases h;exact hr⟩
 |.st t,T,cs,fuel,x,aC,⟨_,i,fs,zs,hi,hs,_,_,aR,aH,_⟩,h=>by
  obtain⟨xs,n,rfl,_,ai,ab,nG⟩:=DataW.trod_struct aR h;have hc:P.cellsOf T=t.size:=(by unfold Program.cellsOf;rw[hi];simp[hs]);obtain⟨y,aB,hr⟩:=ae9 (τ:=t) (fs:=fs.toList) (cs:=cs) aC aH (by rw[kN,<-hc];exact ai) (fun j f aH=>by
   have aH:fs[j]?=some f:=(by simpa using aH);have:=nG j f aH;have ao:j<xs.length:=(by rw[ab];exact(q7.1 aH).1);rw[cr ao] at this;exact⟨_,_,this⟩)
  rw[qh] at aB;exact⟨y,aB,hr⟩
 |.osl _,_,_,_,_,aC,_,_=>by cases aC
 |.optr _,_,_,_,_,aC,_,_=>by cases aC
 |.pr _ _,_,_,_,_,_,bm,_=>bm.elim
 |.nil,_,_,_,_,_,bm,_=>bm.elim
 |.dG,_,_,_,_,aC,_,_=>by cases aC
theorem ae9:∀{τ:au} {fs:List Field} {off:Nat} {zs cs:List Value},xW τ=true->jL P τ fs off zs->cs.length=off+τ.size->(∀(j:Nat) f,fs[j]?=some f->∃(n:Nat) (x:DataW H×List MemPlace),DataW.trod enc P w 0 (fun _=>true) true n f.type ((cs.drop f.offset).take (P.cellsOf f.type))=some x)->∃y:τ.den,br (Kc w) w τ (cs.drop off) y []/\tX τ y
 |.pr a b,f::r,off,zs,cs,aC,dn,ai,ab=>by simp only[xW,bW] at aC;obtain⟨J,R,ac,_,aY⟩:=dn;obtain⟨n,x,ag⟩:=ab 0 f rfl;rw[J,Qe R] at ag;obtain⟨JJ,bk,bD⟩:=O6 aC.1 R ag;obtain⟨dU,cm,fx⟩:=ae9 (cs:=cs) aC.2 aY (by rw[ai];simp only[au.size];omega) (fun j g aG=>ab (j+1) g aG);exact⟨(JJ,dU),⟨[],[],rfl,bk,by rw[tP];exact cm⟩,bD,fx⟩
 |.nil,[],off,zs,cs,_,_,ai,_=>by refine⟨(),⟨rfl,?_⟩,trivial⟩;rw[List.drop_eq_nil_iff];simp only[au.size] at ai;omega
 |.pr _ _,[],_,_,_,_,h,_,_=>h.elim
 |.nil,_::_,_,_,_,_,h,_,_=>h.elim
 |.int _,fs,_,_,_,_,h,_,_=>by cases fs<;>exact h.elim
 |.bool,fs,_,_,_,_,h,_,_=>by cases fs<;>exact h.elim
 |.str,fs,_,_,_,_,h,_,_=>by cases fs<;>exact h.elim
 |.bM _ _,fs,_,_,_,_,h,_,_=>by cases fs<;>exact h.elim
 |.ptr _ _,fs,_,_,_,_,h,_,_=>by cases fs<;>exact h.elim
 |.osl _,fs,_,_,_,_,h,_,_=>by cases fs<;>exact h.elim
 |.optr _,fs,_,_,_,_,h,_,_=>by cases fs<;>exact h.elim
 |.st _,fs,_,_,_,_,h,_,_=>by cases fs<;>exact h.elim
 |.dG,fs,_,_,_,_,h,_,_=>by cases fs<;>exact h.elim
end
theorem avO {τ:au} {T:TypeId} {base:Nat} {v:Value} (aC:xW τ=true) (bm:eB P τ T) (h:Value.okWide P w .any base T v):v=cQ τ v.cells.toList:=by
 cases τ with
 |int k=>
  obtain⟨i,_,_,_,_,aR⟩:=bm;obtain⟨n,rfl⟩:=Go.WideShapes.okWide_int aR h;rfl
 |bool=>
  obtain⟨i,_,_,_,_,aR⟩:=bm;obtain⟨n,rfl⟩:=Go.WideShapes.okWide_bool aR h;rfl
 |str=>
  obtain⟨i,_,_,_,_,aR⟩:=bm;obtain⟨n,rfl⟩:=Go.WideShapes.okWide_string aR h;rfl
 |bM m t=>
  obtain⟨i,S,_,_,_,_,aR,_⟩:=bm;obtain⟨a,l,c,rfl⟩:=Go.WideShapes.okWide_slice aR h;rfl
 |ptr m t=>
  obtain⟨i,S,_,_,_,_,aR,_⟩:=bm;simp only[Value.okWide,aR,Cell.okWide] at h;cases v<;>first|rfl|simp_all [Cell.ok]
 |st t=>
  obtain⟨_,i,fs,zs,_,_,_,_,aR,_,_⟩:=bm;simp only[Value.okWide,aR] at h;obtain⟨cs,rfl,_⟩:=h;rfl
 |_=>first|(cases aC;done)|exact bm.elim
def C2 (P:Program):List hD->List TypeId->Bool
 |[],[]=>true
 |.v τ::l,T::r=>xW τ&&ir P τ T&&C2 P l r
 |_,_=>false
def tY:(ps:List hD)->hG ps->Prop
 |[],_=>True
 |.v τ::l,a=>tX τ a.1/\tY l a.2
 |.m _::l,a=>tY l a.2
 |.o _::l,a=>tY l a.2
 |.c _ _::l,a=>tY l a.2
 |.n::l,a=>tY l a.2
 |.w _::l,a=>tY l a.2
 |.s _ _::l,a=>tY l a.2
theorem Xe {P:Program}:∀{ps:List hD} {iP:List TypeId} {k:Nat},C2 P ps iP=true->lr k ps=none
 |[],_,_,_=>rfl
 |.v τ::l,T::r,k,h=>by simp only[C2,bW] at h;exact Xe (ps:=l) (k:=k+1) h.2
 |.v _::_,[],_,h=>by cases h
 |.m _::_,iP,_,h=>by cases iP<;>cases h
 |.o _::_,iP,_,h=>by cases iP<;>cases h
 |.c _ _::_,iP,_,h=>by cases iP<;>cases h
 |.n::_,iP,_,h=>by cases iP<;>cases h
 |.w _::_,iP,_,h=>by cases iP<;>cases h
 |.s _ _::_,iP,_,h=>by cases iP<;>cases h
def Ja {α:Type}:List α->List (List Nat)
 |[]=>[]
 |_::l=>[]::Ja l
theorem OJ {α:Type}:∀l:List α,(Ja l).flatten=[]
 |[]=>rfl
 |_::l=>by simp only[Ja,lu,OJ l,hk]
theorem Xg:∀{ps:List hD} {iP:List TypeId} {base:Nat} {vs:List Value} {ds:List (DataW H)} {p:List MemPlace},C2 P ps iP=true->DataW.TrodAll enc P w 0 (fun _=>true) true iP vs ds p->(∀(j:Nat) t v,iP[j]?=some t->vs[j]?=some v->Value.okWide P w .any base t v)->∃a:hG ps,tY ps a/\∀{r:Type} (b:j3 ps r),oV (Fi (fun b=>b<w.heap.size) (fun _=>False) w) (f2 ps a b) vs (Ja vs)
 |[],[],base,vs,ds,p,_,ah,_=>by cases vs<;>cases ds<;>first|exact⟨(),trivial,fun _=>trivial⟩|exact ah.elim
 |.v τ::l,T::r,base,vs,ds,p,aa,ah,hv=>by
  simp only[C2,bW] at aa;obtain⟨⟨dg,dF⟩,hE⟩:=aa;obtain⟨v,afy,d,iT,fy,eu,rfl,rfl,rfl,J,R⟩:=Go.ChangeShapes.trodAll_cons ah;obtain⟨fuel,J⟩:=J;have bm:=ir.ok dF;obtain⟨y,aB,hr⟩:=O6 dg bm J;obtain⟨a,aC,gn⟩:=Xg hE R (fun j t ew bC kC=>hv (j+1) t ew (by simpa using bC) (by simpa using kC));refine⟨(y,a),⟨hr,aC⟩,fun b=>⟨⟨rfl,v.cells.toList,avO dg bm (hv 0 T v rfl rfl),?_⟩,gn b⟩⟩;exact aB.mono (fun m b aa=>⟨by cases m with
   |cL=>exact aa
   |eN=>exact .inl aa,df.refl _ _⟩) (by simp)
 |[],_::_,_,_,_,_,h,_,_=>by cases h
 |.v _::_,[],_,_,_,_,h,_,_=>by cases h
 |.m _::_,_,_,_,_,_,h,_,_=>by cases h
 |.o _::_,_,_,_,_,_,h,_,_=>by cases h
 |.c _ _::_,_,_,_,_,_,h,_,_=>by cases h
 |.n::_,_,_,_,_,_,h,_,_=>by cases h
 |.w _::_,_,_,_,_,_,h,_,_=>by cases h
theorem ae8 {P:Program} (gp:laidOutB P=true) {W gE:World} {aeO:Nat->Bool}:∀{iP:List TypeId} {vs:List Value} {ds:List (DataW H)} {p:List MemPlace},(∀t∈iP,P.readableRec t=true/\t<P.types.size)->DataW.TrodAll enc P W 0 (fun _=>true) true iP vs ds p->(∀x∈p,W.sameAt gE x)->(∀x∈p,aeO x.block=true)->DataW.TrodAll enc P gE 0 aeO true iP vs ds p
 |[],vs,ds,p,_,h,_,_=>by cases vs<;>cases ds<;>first|exact h|exact h.elim
 |T::iP,vs,ds,p,hr,h,hs,me=>by obtain⟨v,afy,d,iT,fy,eu,rfl,rfl,rfl,J,R⟩:=Go.ChangeShapes.trodAll_cons h;obtain⟨b2,bo⟩:=hr T (by simp);exact⟨fy,eu,Go.WideElems.Trod_stays gp b2 bo J (fun x ab=>hs x (by simp[ab])) (fun x ab=>me x (by simp[ab])),ae8 gp (fun t ah=>hr t (by simp[ah])) R (fun x ab=>hs x (by simp[ab])) (fun x ab=>me x (by simp[ab])),rfl⟩
theorem arD {E:eV} {F:bh} {fn:Func} {s:ChangeSpec} {T:TypeId} (dn:bg E F) (gp:laidOutB E.P=true) (ap9:(fn.params.toList.all fun t=>E.P.readableRec t&&Nat.blt t E.P.types.size)=true) (D2:C2 E.P F.ps fn.params.toList=true) (_hrs:F.rs=[.bool]) (bm:fn.resultTypes=#[T]) (aa:E.P.underlying T=some .bool) (aaz:s.vars=[]) (aqk:∀ds:List (DataW H),ds.length=fn.params.toList.length->s.fn H ds=⟨[.lit (.bool true)],ds,[]⟩) (Bq:∀a,tY F.ps a->∃b,F.nW a=some b/\j1 F.rs (iY F.ps b)=[⟨.bool,true⟩]) {W0 fresh aoK aj4:Bool} {W:World} {base:Nat} {args:Array Value} {ds gs:List (DataW H)} {rr:List MemPlace} (SL:∀(j:Nat) t v,fn.params[j]?=some t->args[j]?=some v->Value.okWide E.P W .any base t v) (k5:DataW.Whole enc E.P fn.params.toList s.vars W0 W args.toList ds gs rr) (nB:nf E (fun b=>b<W.heap.size) W):Calls E.P F.f args W fun e gE=>∃v,e=.returned v/\s.post enc E.P fn W0 fresh aoK aj4 W args v gE:=by
 have Zy:=k5;obtain⟨p,q,dY,c4,jA,Bi,eA⟩:=k5;rw[aaz] at c4;have M4:gs=[]/\q=[]:=by cases gs with
  |nil=>exact⟨rfl,c4⟩
  |cons=>exact c4.elim
 obtain⟨rfl,rfl⟩:=M4;rw[oM] at jA;subst jA;obtain⟨a,ap8,gn⟩:=Xg (w:=W) (base:=base) D2 dY (fun j t v ah hv=>SL j t v (by simpa using ah) (by simpa using hv));obtain⟨b,o6,uB⟩:=Bq a ap8;have d2:∀{iP:List TypeId} {vs:List Value} {ds:List (DataW H)} {p:List MemPlace},DataW.TrodAll enc E.P W 0 (fun _=>true) true iP vs ds p->ds.length=iP.length:=by
  intro iP
  induction iP with
  |nil=>intro vs ds p h;cases vs<;>cases ds<;>first|rfl|exact h.elim
  |cons T iP aZ=>
   intro vs ds p h;obtain⟨v,afy,d,iT,fy,eu,rfl,rfl,rfl,J,R⟩:=Go.ChangeShapes.trodAll_cons h;simp[aZ R]
 have Hi:s.fn H (ds++[])=⟨[.lit (.bool true)],ds,[]⟩:=(by rw[oM];exact aqk ds (d2 dY));have ca:=Zy.lt;have hc:=dn.2 a b o6 W (fun b=>b<W.heap.size) (fun _=>False) args.toList (Ja args.toList) (fun b h=>h.elim id (fun h=>h.elim)) (gn b) (by rw[OJ];exact List.nodup_nil) (by rw[OJ];simp) (by rw[Jl,Xe D2];trivial);rw[Array.toArray_toList] at hc;refine(hc nB).mono ?_;rintro e gE ⟨I',aA6,Nh,fa,rfl,aw⟩;refine⟨_,rfl,?_⟩;have Hx:uY fa=.bool true:=by
  have:=aw.res;rw[uB] at this;cases fa with
  |nil=>cases Nh<;>exact this.elim
  |cons v fa=>
   cases Nh with
   |nil=>exact this.elim
   |cons aV Nh=>
    obtain⟨⟨cs,hv,_,rfl⟩,lJ⟩:=this;cases fa with
    |nil=>exact hv
    |cons=>cases Nh<;>exact lJ.elim
 have Bj:∀b,b<W.heap.size->gE.heap[b]?=W.heap[b]?:=fun b aa=>aw.heap b aa (by rw[OJ];simp);have Nk:∀x∈rr,W.sameAt gE x:=fun x ab=>by
  have:=Bj x.block (ca x ab);cases x with
  |cell b off=>show gE.cell? _=W.cell? _;unfold World.cell?;rw[show gE.heap[b]?=W.heap[b]? from this]
  |map b=>exact this
 have ape:∀b off,MemPlace.cell b off∈rr->gE.frozen? ⟨b,off,none⟩=W.frozen? ⟨b,off,none⟩:=fun b off ab=>(by unfold World.frozen?;rw[show gE.heap[b]?=W.heap[b]? from Bj b (ca _ ab)]);rw[Hx];have aqa:∀t∈fn.params.toList,E.P.readableRec t=true/\t<E.P.types.size:=fun t ah=>(by have:=fM.1 ap9 t ah;simp only[bW] at this;exact⟨this.1,fQ this.2⟩);have rC:∀r4:Nat->Bool,(∀x∈rr,r4 x.block=true)->DataW.TrodAll enc E.P gE 0 r4 true fn.params.toList args.toList (s.fn H (ds++[])).args rr:=fun r4 me=>(by rw[Hi];exact ae8 gp aqa dY Nk me);have aal:∀(b:Nat) (r4:Nat->Bool) (aP:Bool),DataW.TrodAll enc E.P gE b r4 aP fn.resultTypes.toList ((Value.bool true).resultList fn.resultTypes.size) (s.fn H (ds++[])).results []:=fun b r4 aP=>(by rw[Hi,bm];exact Go.ChangeShapes.trodAll_mk1 ⟨1,by unfold DataW.trod;rw[aa];rfl⟩);have aaA:∀r4:Nat->Bool,DataW.TrodVars enc E.P gE r4 s.vars (s.fn H (ds++[])).vars []:=fun r4=>(by rw[Hi,aaz];rfl);have yC:∀(j:Nat) (t:TypeId) (r:Value),fn.resultTypes[j]?=some t->((Value.bool true).resultList fn.resultTypes.size)[j]?=some r->Value.okWide E.P gE .any 0 t r:=
  Go.RowKit.ok_one bm rfl (Go.RowKit.okWide_bool_mk aa true)
 have pW:∀x∈rr,(fun b=>decide (b<W.heap.size)) x.block=true:=fun x ab=>(by simpa using ca x ab);have ae:W.keptBut gE (fun _=>False):=by
  refine⟨aw.os,aw.output,fun i hi=>?_⟩;rw[Bj i hi];cases W.heap[i]? with
  |none=>rfl
  |some o=>cases o with
   |cells c t f=>exact⟨rfl,rfl,rfl,fun _ _=>rfl⟩
   |map bK c=>exact .inr ⟨rfl,rfl⟩
   |_=>rfl
 refine⟨ds,[],rr,[],rr,[],Zy,aal _ _ _,rC _ pW,aaA _,World.keptBut_mono (fun _ h=>h.elim) ae,fun _=>?_⟩;refine⟨yC,_,_,([]++rr)++[],⟨[]++rr,[],Go.ChangeShapes.trodAll_append (rC _ (fun _ _=>rfl)) (aal _ _ _),aaA _,rfl,?_,?_⟩,?_⟩
 ·intro b off aw;have aw:MemPlace.cell b off∈rr:=(by simpa using aw);rw[ape b off aw];exact Bi b off aw
 ·intro aC;simpa using eA aC
 ·intro x ab _;simpa using ab
end
end
section
inductive vg where
 |l
 |o (a:vg)
 |t (j:Wi) (a b:vg)
 |n (b:vg)
 |p (dx:rj) (m:Wk) (a:vg)
 |k (l:List Nat) (a:vg)
 |z (F:List Nat) (a:vg)
 |d (L:List (Nat×List Nat×List Nat))
def aek (bA:Array Oper) (i:Nat) (f m:List Nat):oI:=match bA[i]? with
 |some o=>⟨i,dl o,o.looksAt bA,uU bA i,f,m⟩
 |none=>⟨i,[],[],[],f,m⟩
def yh:Code->pD
 |.seq x y=>.two .none (yh x) (yh y)
 |.cond _ x y=>.two .none (yh x) (yh y)
 |.block _ x=>.one (yh x)
 |.region _ bA true=>.draw ((List.range bA.size).map fun i=>aek bA i [] [])
 |_=>.leaf
def vg.ex:vg->Code->pD
 |.l,X=>yh X
 |.o A,.block _ X=>.one (A.ex X)
 |.t de A B,.seq X Y=>.two de (A.ex X) (B.ex Y)
 |.t de A B,.cond _ X Y=>.two de (A.ex X) (B.ex Y)
 |.n B,.seq X Y=>.two .none (yh X) (B.ex Y)
 |.n B,.cond _ X Y=>.two .none (yh X) (B.ex Y)
 |.p S M A,.loop X=>.loop S M (A.ex X)
 |.k L A,X=>.keep L (A.ex X)
 |.z F A,X=>.ik F (A.ex X)
 |.d L,.region _ O _=>.draw (L.map fun q=>aek O q.1 q.2.1 q.2.2)
 |_,_=>.leaf
def Ki (E:eV):Type:={l:List (Nat×bh)//∀q∈l,bg E q.2}
def bn {E:eV}:Ki E:=⟨[],ae0⟩
def aF {E:eV} {F:bh} (h:bg E F) (t:Ki E):Ki E:=⟨(F.f,F)::t.1,aze h t.2⟩
section
variable {E:eV} {f:Nat} {fn:Func} {ps:List hD} {cp:List au} {nW:hG ps->Option (j3 ps (oA cp))}
theorem bg.q (tb:Ki E) (s:vg) (aH:E.P.funcs[f]?=some fn) (pT:∀(vs:Array Value) (w:World),(callFunc f vs).run E.P w=.ok (.enter f vs) w) (own:List (Nat×au):=[]) (ik:List aCv:=[]) (aa:(fn.body.isSome&&Nat.ble ps.length fn.ntmps)=true:=by kernel_rfl) (h:∀a,Nw ⟨E.tt,tb.1,own,fn.ntmps,ly 0 ps++r3 (lr 0 ps),[],ik,lr 0 ps,[],[],E.glob⟩ (s.ex (fn.body.getD .skip)) (fn.body.getD .skip) ps fn.results.toList cp a=nW a:=by intro a;kernel_rfl):bg E ⟨f,ps,cp,nW⟩:=
 have aa:=bW _ _▸aa
 bg.acq tb.1 own ik _ [] (fun _ h=>by cases h) aH aa.1 Array.toArray_toList.symm aa.2 pT tb.2 h
end
end
section
def U {α:Type} (x:Option α) (Q:α->Prop):Prop:=∃y,x=some y/\Q y
section
variable {α aT σ ρ τ:Type}
theorem U.ar {y:α} {Q:α->Prop}:U (some y) Q↔Q y:=⟨fun⟨_,h,aj⟩=>by cases h;exact aj,fun h=>⟨y,rfl,h⟩⟩
theorem U.wW {Q:α->Prop}:U none Q↔False:=⟨(fun⟨_,h,_⟩=>by cases h),False.elim⟩
theorem U.dm {x:Option α} {f:α->Option aT} {Q:aT->Prop}:U (x.bind f) Q↔U x (fun y=>U (f y) Q):=by
 cases x with
 |none=>simp only[Option.bind_none,U.wW]
 |some y=>simp only[bq,U.ar]
theorem U.Ir {x:Option α} {f:α->aT} {Q:aT->Prop}:U (x.map f) Q↔U x (fun y=>Q (f y)):=by
 cases x with
 |none=>simp only[Option.map_none,U.wW]
 |some y=>simp only[hC,U.ar]
theorem U.dk {b:Bool} {x y:Option α} {Q:α->Prop}:U (bif b then x else y) Q↔(b=true->U x Q)/\(b=false->U y Q):=by cases b<;>simp
theorem U.mono {x:Option α} {P Q:α->Prop} (h:U x P) (aj:∀y,P y->Q y):U x Q:=let⟨y,J,R⟩:=h;⟨y,J,aj y R⟩
theorem U.eq_iff {x:Option α} {r:α}:U x (· =r)↔x=some r:=⟨fun⟨y,h,e⟩=>by rw[h,e],fun h=>⟨r,h,rfl⟩⟩
theorem U.Za {xs:List α} {i:Int} {Q:α->Prop}:U (bf xs i) Q↔∃(h:i.toNat<xs.length),0<=i/\Q xs[i.toNat]:=by
 unfold bf;by_cases hi:0<=i
 ·rw[if_pos hi];by_cases ai:i.toNat<xs.length
  ·rw[cr ai,U.ar];simp[ai,hi]
  ·rw[gW (by omega),U.wW];simp[ai]
 ·rw[if_neg hi,U.wW];simp[hi]
theorem U.kf {xs:List α} {i:Nat} {Q:α->Prop}:U (bf xs (i:Int)) Q↔∃(h:i<xs.length),Q xs[i]:=by rw[U.Za];simp
theorem U.uH {n:Nat} {i:Int} {Q:Nat->Prop}:U (cH n i) Q↔(0<=i/\i.toNat<n)/\Q i.toNat:=by
 unfold cH;by_cases h:0<=i/\i.toNat<n
 ·rw[if_pos h,U.ar];simp[h]
 ·rw[if_neg h,U.wW];simp[h]
theorem U.yR {n:Nat} {Q:Unit->Prop}:U (di n) Q↔n<=gS/\Q ():=by
 unfold di;by_cases h:n<=gS
 ·rw[if_pos h,U.ar];simp[h]
 ·rw[if_neg h,U.wW];simp[h]
theorem U.Eu {l c:Int} {Q:Nat->Prop}:U (fJ l c) Q↔(0<=l/\l<=c/\c<=(gS:Int))/\Q l.toNat:=by
 unfold fJ;by_cases h:0<=l/\l<=c/\c<=(gS:Int)
 ·rw[if_pos h,U.ar];simp[h]
 ·rw[if_neg h,U.wW];simp[h]
def cb (xs:List α) (k:Nat) (f:α->Option aT):Option aT:=match xs[k]? with
 |some e=>f e
 |none=>none
theorem U.t9 {xs:List α} {k:Nat} {g:α->Option aT} {Q:aT->Prop}:U (cb xs k g) Q↔∃(h:k<xs.length),U (g xs[k]) Q:=by
 unfold cb;by_cases h:k<xs.length
 ·rw[cr h];simp[h]
 ·rw[gW (by omega)];simp[h,U.wW]
theorem U.loop {f:σ->Option (σ⊕ρ)} {Q:ρ->Prop} (I:σ->Prop) (m:σ->Nat) {s:σ} (aV:I s) (hs:∀s,I s->U (f s) (fun|.inl s'=>I s'/\m s'<m s|.inr r=>Q r)):U (loop f s) Q:=by
 have key:∀n s,m s<=n->I s->∃r,kX f (n+1) s=some r/\Q r:=by
  intro n
  induction n with
  |zero=>
   intro s ak hi;obtain⟨y,J,R⟩:=hs s hi;cases y with
   |inl s'=>have:=R.2;omega
   |inr r=>exact⟨r,by simp only[kX,J],R⟩
  |succ n aZ=>
   intro s ak hi;obtain⟨y,J,R⟩:=hs s hi;cases y with
   |inl s'=>
    obtain⟨r,ac,aL⟩:=aZ s' (by have:=R.2;omega) R.1;exact⟨r,by rw[kX,J];exact ac,aL⟩
   |inr r=>exact⟨r,by simp only[kX,J],R⟩
 obtain⟨r,J,R⟩:=key (m s) s (bU _) aV;exact⟨r,Ii.2 ⟨_,J⟩,R⟩
theorem U.for {f:Int×τ->Option ((Int×τ)⊕ρ)} {Q:ρ->Prop} (n:Nat) (I:Nat->τ->Prop) {i0:Nat} {t0:τ} {HM:Int} (ao:HM=(i0:Int)) (aV:I i0 t0) (hi:i0<=n) (wu:∀i t,i0<=i->i<n->I i t->U (f ((i:Int),t)) (fun|.inl s'=>s'.1=((i+1:Nat):Int)/\I (i+1) s'.2|.inr r=>Q r)) (wg:∀t,I n t->U (f ((n:Int),t)) (fun|.inl _=>False|.inr r=>Q r)):U (mz.loop f (HM,t0)) Q:=by
 subst ao;refine U.loop (fun s=>∃i:Nat,i0<=i/\i<=n/\s.1=(i:Int)/\I i s.2) (fun s=>n-s.1.toNat) ⟨i0,bU _,hi,rfl,aV⟩ ?_;rintro⟨j,t⟩ ⟨i,ai,hi,rfl,ah⟩;rcases ct i n with h|h
 ·refine(wu i t ai h ah).mono ?_;rintro(⟨s6,t'⟩|r) aB
  ·obtain⟨e,R⟩:=aB;simp only at e;subst e;exact⟨⟨i+1,by omega,by omega,rfl,R⟩,by show n-Int.toNat _<n-Int.toNat _;simp;omega⟩
  ·exact aB
 ·obtain rfl:i=n:=(by omega);refine(wg t ah).mono ?_;rintro(s'|r) aB
  ·exact aB.elim
  ·exact aB
end
theorem azY (x:Int):IntKind.i64.wrap x=if(9223372036854775808:Int)<=x %18446744073709551616 then x %18446744073709551616-18446744073709551616 else x %18446744073709551616:=by
 unfold IntKind.wrap;by_cases h:(9223372036854775808:Int)<=x %18446744073709551616
 ·rw[if_pos h];exact if_pos (show(true&&decide (x %18446744073709551616>=(9223372036854775808:Int)))=true by simp[h])
 ·rw[if_neg h];exact if_neg (show¬(true&&decide (x %18446744073709551616>=(9223372036854775808:Int)))=true by simp[h])
theorem wrap64 {x:Int} (J:-9223372036854775808<=x) (R:x<=9223372036854775807):IntKind.i64.wrap x=x:=by rw[azY];split<;>omega
theorem hh {i:Nat} (h:i<9223372036854775807):IntKind.i64.wrap ((i:Int)+1)=((i+1:Nat):Int):=by rw[wrap64 (by omega) (by omega)];simp
end
section
abbrev aS {α:Type} (l:List α):Int:=((l.length:Nat):Int)
abbrev aQ (x:Int):Int:=IntKind.i64.wrap x
abbrev bc (x:Int):Int:=IntKind.u64.wrap x
abbrev dt (x:Int):Int:=IntKind.u32.wrap x
abbrev bN (x:Int):Int:=IntKind.i64.wrap (x+1)
def rd {α aT:Type} (l:List α) (i:Int) (k:α->Option aT):Option aT:=(cH l.length i).bind fun j=>(cb l j fun e=>some e).bind k
def wr {α aT:Type} (l:List α) (i:Int) (v:α) (k:List α->Option aT):Option aT:=(cH l.length i).bind fun j=>(cb l j fun _=>some (l.set j v)).bind k
section
variable {α aT:Type}
theorem oC {l:List α} {i:Nat} (h:i<l.length) (k:α->Option aT):rd l (i:Int) k=k l[i]:=by unfold rd cH;rw[if_pos ⟨by omega,by simpa using h⟩];show(cb l (i:Int).toNat _).bind k=_;unfold cb;rw[d7,cr h];rfl
theorem axn {l:List α} {i:Int} {v:α} (aV:0<=i) (h:l[i.toNat]?=some v) (k:α->Option aT):rd l i k=k v:=by obtain⟨J,R⟩:=fu.1 h;obtain⟨n,rfl⟩:=fL aV;have ac:n<l.length:=J;exact(oC ac k).trans (congrArg k R)
theorem m8 {l:List α} {i:Nat} (h:i<l.length) (v:α) (k:List α->Option aT):wr l (i:Int) v k=k (l.set i v):=by unfold wr cH;rw[if_pos ⟨by omega,by simpa using h⟩];show(cb l (i:Int).toNat _).bind k=_;unfold cb;rw[d7,cr h];rfl
end
end
def K9:aCj->Option aCt:=fun(fc,c5,_)=>(loop (σ:=aCs) (ρ:=aCm) (fun(arB,eZ,_)=>bif decide (eZ<((fc.length:Nat):Int)) then(Option.bind (α:=aCu⊕aB7) ((bf fc eZ).bind fun eH=>Option.bind (α:=Unit⊕(aCu⊕aB7)) (bif decide (eH<=arB)==false then bif decide (eH>=c5) then some (.inr (.inr (.inr (.inr (false,()))))) else some (.inl ()) else some (.inr (.inr (.inr (.inr (false,())))))) fun q=>match q with
 |.inl _=>(some (.inl (eH,())))
 |.inr r=>some r) fun q=>match q with
 |.inl (arC,_)=>(some (.inl (arC,IntKind.i64.wrap (eZ+(1:Int)),())))
 |.inr r=>some r) else some (.inr (.inl ()))) ((-1:Int),(0:Int),())).bind fun q=>match q with
 |.inl _=>(some (true,()))
 |.inr r=>some r
def x3:aCu->Option aCt:=fun(cN,_)=>some ((cN !=cN),())
def Au:aCs->Option aCt:=fun(cN,tH,_)=>(x3 (cN,())).bind fun(a5,_)=>(bif a5==true then(x3 (tH,())).bind fun(bw,_)=>bif (!bw)==false then some (decide (cN<tH),()) else some (true,()) else some (decide (cN<tH),()))
def Ly:aCu->Option aCt:=fun(cN,_)=>some ((cN !=cN),())
def Ls:aCj->Option aCp:=fun(cN,Vx,_)=>(loop (σ:=aCs) (ρ:=aCu) (fun(eL,pZ,_)=>bif decide (eL<pZ) then(d6 IntKind.u64 (IntKind.u64.wrap (IntKind.i64.wrap (eL+pZ))) (1:Int)).bind fun eH=>(bf cN (IntKind.i64.wrap eH)).bind fun ep=>(Au (ep,Vx,())).bind fun(cV,_)=>bif cV then some (.inl (IntKind.i64.wrap (IntKind.i64.wrap eH+(1:Int)),pZ,())) else some (.inl (eL,IntKind.i64.wrap eH,())) else some (.inr (eL,()))) ((0:Int),((cN.length:Nat):Int),())).bind fun(ha,_)=>(bif decide (ha<((cN.length:Nat):Int))==true then(bf cN ha).bind fun dj=>bif (dj==Vx)==false then(bf cN ha).bind fun gN=>(Ly (gN,())).bind fun(f8,_)=>bif f8==true then(Ly (Vx,())).bind fun(iK,_)=>some (ha,iK,()) else some (ha,false,()) else some (ha,true,()) else some (ha,false,()))
def Dh:(aCh×Int×Int×Unit)->Option aCt:=fun(dX,eo,sd,_)=>(bf dX.1 eo).bind fun e0=>(Ls (e0,sd,())).bind fun(_,cq,_)=>some (cq,())
def F1:aCc->Option aCu:=fun(dX,_)=>(bif decide ((((dX.1).length:Nat):Int)>(200:Int)) then some ((6:Int),()) else((loop (σ:=aCu) (ρ:=aCn) (fun(ln,_)=>bif decide (ln<(((dX.1).length:Nat):Int)) then(Option.bind (α:=Unit⊕aCb) ((bf dX.1 ln).bind fun gO=>(K9 (gO,(((dX.1).length:Nat):Int),())).bind fun(bw,_)=>bif (!bw)==false then(Dh (dX,ln,ln,())).bind fun(bV,_)=>bif bV then some (.inr (.inr (.inr ((1:Int),())))) else some (.inl ()) else some (.inr (.inr (.inr ((1:Int),()))))) fun q=>match q with
 |.inl _=>(some (.inl (IntKind.i64.wrap (ln+(1:Int)),())))
 |.inr r=>some r) else some (.inr (.inl ()))) ((0:Int),())).bind fun q=>match q with
 |.inl _=>((loop (σ:=aCu) (ρ:=aCn) (fun(hI,_)=>bif decide (hI<(((dX.1).length:Nat):Int)) then((bf dX.1 hI).bind fun ga=>(loop (σ:=aCu) (ρ:=aB4) (fun(lq,_)=>bif decide (lq<((ga.length:Nat):Int)) then(bf ga lq).bind fun dj=>(Dh (dX,dj,hI,())).bind fun(gx,_)=>bif !gx then some (.inr (.inr (.inr (.inr ((1:Int),()))))) else some (.inl (IntKind.i64.wrap (lq+(1:Int)),())) else some (.inr (.inl ()))) ((0:Int),())).bind fun q=>match q with
 |.inl _=>(some (.inl (IntKind.i64.wrap (hI+(1:Int)),())))
 |.inr r=>some r) else some (.inr (.inl ()))) ((0:Int),())).bind fun q=>match q with
 |.inl _=>(some ((0:Int),()))
 |.inr r=>some r)
 |.inr r=>some r))
def K1:aCu->Option aB9:=fun(h3,_)=>(fJ h3 h3).bind fun mj=>(fJ h3 h3).bind fun po=>(loop (σ:=aB5) (ρ:=aB9) (fun(eZ,v8,_)=>bif decide (eZ<h3) then(cH (v8.1).length eZ).bind fun rR=>((cb v8.1 rR fun _=>some ((v8.1).set rR (-1:Int))).map fun V7=>(V7,v8.2)).bind fun JX=>(cH (JX.2.1).length eZ).bind fun iG=>(((cb JX.2.1 iG fun _=>some ((JX.2.1).set iG (-1:Int))).map fun JQ=>(JQ,JX.2.2)).map fun tI=>(JX.1,tI)).bind fun nb=>some (.inl (IntKind.i64.wrap (eZ+(1:Int)),nb,())) else some (.inr (v8,()))) ((0:Int),(List.replicate mj (0:Int),(List.replicate po (0:Int),())),())).bind fun(anw,_)=>some (anw,())
def K0:(aCe×Int×Int×Unit)->Option aB9:=fun(hY,ht,hP,_)=>(loop (σ:=aB5) (ρ:=aB9) (fun(dK,v8,_)=>Option.bind (α:=aB9⊕(aB5⊕aB9)) (bif (dK !=(-1:Int))==true then bif decide (dK<hP) then some (.inl (v8,())) else some (.inr (.inr (v8,()))) else some (.inr (.inr (v8,())))) fun q=>match q with
 |.inl (A3,_)=>((cH (A3.2.1).length dK).bind fun Eg=>(cb A3.2.1 Eg fun vY=>some vY).bind fun dj=>(cH (A3.2.1).length dK).bind fun iG=>(((cb A3.2.1 iG fun _=>some ((A3.2.1).set iG hP)).map fun JQ=>(JQ,A3.2.2)).map fun tI=>(A3.1,tI)).bind fun nb=>Option.bind (α:=aB9) (bif dj==(-1:Int) then(cH (nb.1).length dK).bind fun HO=>((cb nb.1 HO fun _=>some ((nb.1).set HO hP)).map fun CB=>(CB,nb.2)).bind fun xy=>some (xy,()) else some (nb,())) fun(Mv,_)=>some (.inl (dj,Mv,())))
 |.inr r=>some r) (ht,hY,())).bind fun(anx,_)=>some (anx,())
def KZ:aCc->Option aCj:=fun(dX,_)=>(F1 (dX,())).bind fun(hH,_)=>(bif hH !=(0:Int) then some ([],hH,()) else(K1 ((((dX.1).length:Nat):Int),())).bind fun(jJ,_)=>(loop (σ:=aB5) (ρ:=aB9) (fun(qY,YM,_)=>bif decide (qY<(((dX.1).length:Nat):Int)) then(bf dX.1 qY).bind fun m9=>(loop (σ:=aB5) (ρ:=aB9) (fun(u3,Mv,_)=>bif decide (u3<((m9.length:Nat):Int)) then(bf m9 u3).bind fun Fc=>(K0 (Mv,Fc,qY,())).bind fun(ar9,_)=>some (.inl (IntKind.i64.wrap (u3+(1:Int)),ar9,())) else some (.inr (Mv,()))) ((0:Int),YM,())).bind fun(anz,_)=>some (.inl (IntKind.i64.wrap (qY+(1:Int)),anz,())) else some (.inr (YM,()))) ((0:Int),jJ,())).bind fun(anA,_)=>some (anA.1,(0:Int),()))
def Md:(aCh×List Int×Int×Unit)->Option aCq:=fun(dX,awa,eL,_)=>(fJ (IntKind.i64.wrap (eL+(1:Int))) (IntKind.i64.wrap (eL+(1:Int)))).bind fun Iy=>(cH (List.replicate Iy false).length eL).bind fun HR=>(cb (List.replicate Iy false) HR fun _=>some ((List.replicate Iy false).set HR true)).bind fun CD=>(bf dX.1 eL).bind fun sf=>(loop (σ:=aCi) (ρ:=aCo) (fun(nV,abL,_)=>bif decide (nV<((sf.length:Nat):Int)) then(bf sf nV).bind fun q5=>(loop (σ:=aCi) (ρ:=aCo) (fun(s7,qP,_)=>Option.bind (α:=aCo⊕aB2) (bif decide (s7>=(0:Int))==true then bif decide (s7<eL)==true then(cH qP.length s7).bind fun HU=>(cb qP HU fun GQ=>some GQ).bind fun zG=>bif !zG then some (.inl (qP,())) else some (.inr (.inr (qP,()))) else some (.inr (.inr (qP,()))) else some (.inr (.inr (qP,())))) fun q=>match q with
 |.inl (BM,_)=>((cH BM.length s7).bind fun HV=>(cb BM HV fun _=>some (BM.set HV true)).bind fun V4=>(bf awa s7).bind fun VX=>some (.inl (VX,V4,())))
 |.inr r=>some r) (q5,abL,())).bind fun(asD,_)=>some (.inl (IntKind.i64.wrap (nV+(1:Int)),asD,())) else some (.inr (abL,()))) ((0:Int),CD,())).bind fun(abM,_)=>(loop (σ:=(Int×List Bool×List Int×Unit)) (ρ:=aCq) (fun(Ci,N1,EJ,_)=>bif decide (Ci<((abM.length:Nat):Int)) then Option.bind (α:=(List Bool×List Int×Unit)) ((cH N1.length Ci).bind fun Tc=>(cb N1 Tc fun QU=>some QU).bind fun Pp=>bif Pp then(di (EJ.length+([Ci]).length)).bind fun _=>some (N1,(EJ++[Ci]),()) else some (N1,EJ,())) fun(asE,av2,_)=>some (.inl (IntKind.i64.wrap (Ci+(1:Int)),asE,av2,())) else some (.inr (EJ,()))) ((0:Int),abM,[],())).bind fun(av3,_)=>some (av3,())
def Mc:aCc->Option aCf:=fun(dX,_)=>(KZ (dX,())).bind fun(OF,adG,_)=>(bif adG !=(0:Int) then some ([],adG,()) else(fJ ((OF.length:Nat):Int) ((OF.length:Nat):Int)).bind fun TU=>(loop (σ:=(Int×List (List Int)×Unit)) (ρ:=aCh) (fun(u4,Ok,_)=>bif decide (u4<((OF.length:Nat):Int)) then(Md (dX,OF,u4,())).bind fun(EQ,_)=>(loop (σ:=(Int×List (List Int)×List Int×Unit)) (ρ:=aCh) (fun(U8,rV,Va,_)=>bif decide (U8<((EQ.length:Nat):Int)) then(cH Va.length U8).bind fun HU=>(cb Va HU fun GQ=>some GQ).bind fun zG=>(cH rV.length zG).bind fun aa6=>(cb rV aa6 fun amh=>some amh).bind fun aAb=>(di (aAb.length+([u4]).length)).bind fun _=>(cH rV.length zG).bind fun NJ=>bif Nat.beq aa6 NJ&&true then(cb rV NJ fun amj=>some amj).bind fun aAd=>(cb rV NJ fun _=>some (rV.set NJ (aAd++[u4]))).bind fun JV=>
 some (.inl (IntKind.i64.wrap (U8+(1:Int)),JV,Va,())) else none else some (.inr (rV,()))) ((0:Int),Ok,EQ,())).bind fun(EJ,_)=>some (.inl (IntKind.i64.wrap (u4+(1:Int)),EJ,())) else some (.inr (Ok,()))) ((0:Int),List.replicate TU [],())).bind fun(Uu,_)=>some (Uu,(0:Int),()))
def AE:(List Int×List Int×Unit)->Option aCt:=fun(ba,b1,_)=>(bif ((ba.length:Nat):Int)!=((b1.length:Nat):Int) then some (false,()) else((loop (σ:=aCu) (ρ:=aCm) (fun(eL,_)=>bif decide (eL<((ba.length:Nat):Int)) then(bf ba eL).bind fun e0=>(bf b1 eL).bind fun eH=>bif e0 !=eH then some (.inr (.inr (false,()))) else some (.inl (IntKind.i64.wrap (eL+(1:Int)),())) else some (.inr (.inl ()))) ((0:Int),())).bind fun q=>match q with
 |.inl _=>(some (true,()))
 |.inr r=>some r))
def LC:aCq->Option aCt:=fun(fc,_)=>(loop (σ:=aCu) (ρ:=aCm) (fun(ht,_)=>bif decide (ht<((fc.length:Nat):Int)) then(bf fc ht).bind fun gO=>(bf fc (IntKind.i64.wrap (ht-(1:Int)))).bind fun e0=>bif decide (gO<=e0) then some (.inr (.inr (false,()))) else some (.inl (IntKind.i64.wrap (ht+(1:Int)),())) else some (.inr (.inl ()))) ((1:Int),())).bind fun q=>match q with
 |.inl _=>(some (true,()))
 |.inr r=>some r
def GB:aCg->Option aCc:=fun(O1,_)=>(loop (σ:=aBU) (ρ:=aBV) (fun(JF,EV,MI,_)=>bif decide (JF<((O1.length:Nat):Int)) then(loop (σ:=(Int×aCh×aCh×List Int×Unit)) (ρ:=aBT) (fun(Ct,EW,MJ,NQ,_)=>bif decide (Ct<((O1.length:Nat):Int)) then Option.bind (α:=aBT) (Option.bind (α:=(Bool×aCh×aCh×List Int×Unit)) (bif (JF !=Ct)==true then(bf O1 JF).bind fun VW=>(bf VW Ct).bind fun mv=>bif mv==false then(bf O1 Ct).bind fun Cx=>(bf Cx JF).bind fun zG=>some (zG,EW,MJ,NQ,()) else some (true,EW,MJ,NQ,()) else some (false,EW,MJ,NQ,())) fun(aym,OR,MK,Tn,_)=>
 bif aym then(di (Tn.length+([Ct]).length)).bind fun _=>some (OR,MK,(Tn++[Ct]),()) else some (OR,MK,Tn,())) fun(ayn,an1,ary,_)=>some (.inl (IntKind.i64.wrap (Ct+(1:Int)),ayn,an1,ary,())) else some (.inr (EW,MJ,NQ,()))) ((0:Int),EV,MI,[],())).bind fun(Ci,Ru,abp,_)=>(di ((Ru.1).length+([abp]).length)).bind fun _=>some (.inl (IntKind.i64.wrap (JF+(1:Int)),Ci,((Ru.1++[abp]),Ru.2),())) else some (.inr (EV,MI,()))) ((0:Int),([],()),([],()),())).bind fun(_,an2,_)=>some (an2,())
def Gj:aCj->Option aCt:=fun(fc,eo,_)=>(loop (σ:=aCu) (ρ:=aCm) (fun(eL,_)=>bif decide (eL<((fc.length:Nat):Int)) then(bf fc eL).bind fun e0=>bif e0==eo then some (.inr (.inr (true,()))) else some (.inl (IntKind.i64.wrap (eL+(1:Int)),())) else some (.inr (.inl ()))) ((0:Int),())).bind fun q=>match q with
 |.inl _=>(some (false,()))
 |.inr r=>some r
def Dv:aCc->Option aCu:=fun(dX,_)=>(bif decide ((((dX.1).length:Nat):Int)>(200:Int)) then some ((6:Int),()) else((loop (σ:=aCu) (ρ:=aCn) (fun(eo,_)=>bif decide (eo<(((dX.1).length:Nat):Int)) then(bf dX.1 eo).bind fun gO=>(LC (gO,())).bind fun(bw,_)=>bif !bw then some (.inr (.inr ((1:Int),()))) else((loop (σ:=aCu) (ρ:=aB4) (fun(lh,_)=>(bf dX.1 eo).bind fun ep=>bif decide (lh<((ep.length:Nat):Int)) then(Option.bind (α:=Unit⊕(aCu⊕aB4)) ((bf dX.1 eo).bind fun ga=>(bf ga lh).bind fun hJ=>bif decide (hJ<(0:Int))==false then bif decide (hJ>=(((dX.1).length:Nat):Int))==false then bif (hJ==eo)==false then(bf dX.1 hJ).bind fun dj=>(Gj (dj,eo,())).bind fun(gx,_)=>bif !gx then some (.inr (.inr (.inr (.inr (.inr ((1:Int),())))))) else some (.inl ()) else some (.inr (.inr (.inr (.inr (.inr ((1:Int),())))))) else some (.inr (.inr (.inr (.inr (.inr ((1:Int),())))))) else some (.inr (.inr (.inr (.inr (.inr ((1:Int),()))))))) fun q=>match q with
 |.inl _=>(some (.inl (IntKind.i64.wrap (lh+(1:Int)),())))
 |.inr r=>some r) else some (.inr (.inl ()))) ((0:Int),())).bind fun q=>match q with
 |.inl _=>(some (.inl (IntKind.i64.wrap (eo+(1:Int)),())))
 |.inr r=>some r) else some (.inr (.inl ()))) ((0:Int),())).bind fun q=>match q with
 |.inl _=>(some ((0:Int),()))
 |.inr r=>some r))
def L0:aCj->Option aCt:=fun(fc,c5,_)=>(loop (σ:=aCu) (ρ:=aCm) (fun(eL,_)=>bif decide (eL<((fc.length:Nat):Int)) then(Option.bind (α:=Unit⊕(aCu⊕aCm)) ((bf fc eL).bind fun e0=>bif decide (e0<(0:Int))==false then(bf fc eL).bind fun eH=>bif decide (eH>=c5) then some (.inr (.inr (.inr (false,())))) else some (.inl ()) else some (.inr (.inr (.inr (false,()))))) fun q=>match q with
 |.inl _=>(some (.inl (IntKind.i64.wrap (eL+(1:Int)),())))
 |.inr r=>some r) else some (.inr (.inl ()))) ((0:Int),())).bind fun q=>match q with
 |.inl _=>(some (true,()))
 |.inr r=>some r
def L1:aCq->Option aCt:=fun(fc,_)=>(loop (σ:=aCu) (ρ:=aCm) (fun(ht,_)=>bif decide (ht<((fc.length:Nat):Int)) then((some (0)).bind fun mZ=>(jh ht).bind fun abk=>(jG mZ abk fc.length).map fun _=>(mZ,abk)).bind fun dv=>(bf fc ht).bind fun ep=>(Gj (((fc.take dv.2).drop dv.1),ep,())).bind fun(cV,_)=>bif cV then some (.inr (.inr (true,()))) else some (.inl (IntKind.i64.wrap (ht+(1:Int)),())) else some (.inr (.inl ()))) ((0:Int),())).bind fun q=>match q with
 |.inl _=>(some (false,()))
 |.inr r=>some r
def GD:aCc->Option aCg:=fun(dX,_)=>(loop (σ:=aCd) (ρ:=aCg) (fun(eo,lQ,_)=>bif decide (eo<(((dX.1).length:Nat):Int)) then(fJ (((dX.1).length:Nat):Int) (((dX.1).length:Nat):Int)).bind fun p2=>(loop (σ:=(Int×List (List Bool)×List Bool×Unit)) (ρ:=(List (List Bool)×List Bool×Unit)) (fun(lh,tk,OQ,_)=>(bf dX.1 eo).bind fun hJ=>bif decide (lh<((hJ.length:Nat):Int)) then(bf dX.1 eo).bind fun dj=>(bf dj lh).bind fun gN=>(cH OQ.length gN).bind fun NF=>(cb OQ NF fun _=>some (OQ.set NF true)).bind fun tI=>some (.inl (IntKind.i64.wrap (lh+(1:Int)),tk,tI,())) else some (.inr (tk,OQ,()))) ((0:Int),lQ,List.replicate p2 false,())).bind fun(p6,ael,_)=>(di (p6.length+([ael]).length)).bind fun _=>some (.inl (IntKind.i64.wrap (eo+(1:Int)),(p6++[ael]),())) else some (.inr (lQ,()))) ((0:Int),[],())).bind fun(tj,_)=>
 some (tj,())
def GF:aCu->Option aCg:=fun(h3,_)=>(loop (σ:=aCd) (ρ:=aCg) (fun(ht,lQ,_)=>bif decide (ht<h3) then(fJ h3 h3).bind fun p2=>(di (lQ.length+([List.replicate p2 false]).length)).bind fun _=>some (.inl (IntKind.i64.wrap (ht+(1:Int)),(lQ++[List.replicate p2 false]),())) else some (.inr (lQ,()))) ((0:Int),[],())).bind fun(rW,_)=>some (rW,())
def L3:aB3->Option aCa:=fun(dX,p0,_)=>(Dv (dX,())).bind fun(a5,_)=>(bif a5 !=(0:Int) then some (([],()),a5,()) else(L0 (p0,(((dX.1).length:Nat):Int),())).bind fun(bw,_)=>bif !bw then some (([],()),(3:Int),()) else(L1 (p0,())).bind fun(bV,_)=>bif bV then some (([],()),(90:Int),()) else(GD (dX,())).bind fun(cq,_)=>(GF (((p0.length:Nat):Int),())).bind fun(cV,_)=>(loop (σ:=aBX) (ρ:=aBY) (fun(ha,jj,za,_)=>bif decide (ha<((p0.length:Nat):Int)) then(loop (σ:=aBX) (ρ:=aBY) (fun(NE,pv,p5,_)=>bif decide (NE<((p0.length:Nat):Int)) then(cH p5.length ha).bind fun rQ=>(bf p0 ha).bind fun JK=>
 (bf cq JK).bind fun m9=>(bf p0 NE).bind fun tF=>(bf m9 tF).bind fun vf=>((cb p5 rQ fun QL=>some QL).bind fun GP=>cH GP.length NE).bind fun HQ=>(cb p5 rQ fun Yp=>(cb Yp HQ fun _=>some (Yp.set HQ vf)).map fun xz=>p5.set rQ xz).bind fun JT=>some (.inl (IntKind.i64.wrap (NE+(1:Int)),pv,JT,())) else some (.inr (pv,p5,()))) ((0:Int),jj,za,())).bind fun(EV,Ur,_)=>some (.inl (IntKind.i64.wrap (ha+(1:Int)),EV,Ur,())) else some (.inr (jj,za,()))) ((0:Int),([],()),cV,())).bind fun(_,wZ,_)=>(GB (wZ,())).bind fun(uW,_)=>some (uW,(0:Int),()))
def L4:aCc->Option aB0:=fun(dX,_)=>(GD (dX,())).bind fun(bo,_)=>(fJ (((dX.1).length:Nat):Int) (((dX.1).length:Nat):Int)).bind fun po=>some ((bo,(List.replicate po false,())),())
def GH:(Option aB8×Int×Unit)->Option aCq:=fun(Dx,eo,_)=>(loop (σ:=aCk) (ρ:=aCq) (fun(sd,Ut,_)=>Dx.bind fun eH=>bif decide (sd<(((eH.1).length:Nat):Int)) then Option.bind (α:=aCq) (Option.bind (α:=(Bool×List Int×Unit)) (Dx.bind fun ep=>(bf ep.1 eo).bind fun ga=>(bf ga sd).bind fun hJ=>bif hJ==true then Dx.bind fun dj=>(bf dj.2.1 sd).bind fun gN=>some ((!gN),Ut,()) else some (false,Ut,())) fun(jK,zb,_)=>bif jK then(di (zb.length+([sd]).length)).bind fun _=>some ((zb++[sd]),()) else some (zb,())) fun(p5,_)=>some (.inl (IntKind.i64.wrap (sd+(1:Int)),p5,())) else some (.inr (Ut,()))) ((0:Int),[],())).bind fun(p6,_)=>some (p6,())
def GG:(aB8×Int×Unit)->Option aB0:=fun(Dx,eo,_)=>(GH (some Dx,eo,())).bind fun(a5,_)=>(loop (σ:=aBZ) (ρ:=aB0) (fun(dK,Yu,_)=>bif decide (dK<((a5.length:Nat):Int)) then(loop (σ:=aBZ) (ρ:=aB0) (fun(mh,AQ,_)=>bif decide (mh<((a5.length:Nat):Int)) then Option.bind (α:=aB0) (bif dK !=mh then(bf a5 dK).bind fun hJ=>(cH (AQ.1).length hJ).bind fun kW=>(bf a5 mh).bind fun hA=>((cb AQ.1 kW fun GM=>some GM).bind fun QK=>cH QK.length hA).bind fun rQ=>((cb AQ.1 kW fun AP=>(cb AP rQ fun _=>some (AP.set rQ true)).map fun CB=>(AQ.1).set kW CB).map fun xy=>(xy,AQ.2)).bind fun JR=>some (JR,()) else some (AQ,())) fun(amv,_)=>
 some (.inl (IntKind.i64.wrap (mh+(1:Int)),amv,())) else some (.inr (AQ,()))) ((0:Int),Yu,())).bind fun(amw,_)=>some (.inl (IntKind.i64.wrap (dK+(1:Int)),amw,())) else some (.inr (Yu,()))) ((0:Int),Dx,())).bind fun(GS,_)=>(cH (GS.2.1).length eo).bind fun aa2=>(((cb GS.2.1 aa2 fun _=>some ((GS.2.1).set aa2 true)).map fun xz=>(xz,GS.2.2)).map fun JT=>(GS.1,JT)).bind fun CD=>some (CD,())
def L5:aCc->Option aCf:=fun(dX,_)=>(Dv (dX,())).bind fun(iK,_)=>(bif iK !=(0:Int) then some ([],iK,()) else(L4 (dX,())).bind fun(hH,_)=>(loop (σ:=(Int×aB8×List (List Int)×Unit)) (ρ:=aCh) (fun(By,afI,tj,_)=>bif decide (By<(((dX.1).length:Nat):Int)) then(GH (some afI,By,())).bind fun(rZ,_)=>(di (([By]).length+rZ.length)).bind fun _=>(di (tj.length+([([By]++rZ)]).length)).bind fun _=>(GG (afI,By,())).bind fun(ar8,_)=>some (.inl (IntKind.i64.wrap (By+(1:Int)),ar8,(tj++[([By]++rZ)]),())) else some (.inr (tj,()))) ((0:Int),hH,[],())).bind fun(uS,_)=>some (uS,(0:Int),()))
def LF:aCj->Option aCt:=fun(fc,c5,_)=>(bif ((fc.length:Nat):Int)!=c5 then some (false,()) else((fJ c5 c5).bind fun po=>(loop (σ:=aCi) (ρ:=aCm) (fun(dK,E0,_)=>bif decide (dK<c5) then(Option.bind (α:=aCo⊕aB1) (Option.bind (α:=aCo⊕(aCo⊕aB1)) ((bf fc dK).bind fun ep=>bif decide (ep<(0:Int))==false then(bf fc dK).bind fun ga=>bif decide (ga>=c5)==false then(bf fc dK).bind fun hJ=>(cH E0.length hJ).bind fun kW=>(cb E0 kW fun al5=>some al5).bind fun hA=>bif hA then some (.inr (.inr (.inr (.inr (false,()))))) else some (.inl (E0,())) else some (.inr (.inr (.inr (.inr (false,()))))) else some (.inr (.inr (.inr (.inr (false,())))))) fun q=>match q with
 |.inl (Jk,_)=>((bf fc dK).bind fun h7=>(cH Jk.length h7).bind fun rQ=>(cb Jk rQ fun _=>some (Jk.set rQ true)).bind fun CA=>some (.inl (CA,())))
 |.inr r=>some r) fun q=>match q with
 |.inl (Ve,_)=>(some (.inl (IntKind.i64.wrap (dK+(1:Int)),Ve,())))
 |.inr r=>some r) else some (.inr (.inl ()))) ((0:Int),List.replicate po false,())).bind fun q=>match q with
 |.inl _=>(some (true,()))
 |.inr r=>some r))
def GC:aB3->Option aCa:=fun(dX,h4,_)=>(Dv (dX,())).bind fun(a5,_)=>(bif a5 !=(0:Int) then some (([],()),a5,()) else bif ((h4.length:Nat):Int)!=(((dX.1).length:Nat):Int) then some (([],()),(2:Int),()) else(LF (h4,(((dX.1).length:Nat):Int),())).bind fun(bw,_)=>bif !bw then some (([],()),(90:Int),()) else(L3 (dX,h4,())).bind fun(bV,cq,_)=>some (bV,cq,()))
section
open Go
def Jy (sort:List Int->Option (List Int)) (l:List Int):Option Bool:=bif Nat.ble l.length 1000000 then(sort l).bind fun aW=>bif Nat.ble aW.length 1000000 then some (decide ((Lib.compact aW).length<l.length)) else none else none
end
def Lc:aCa->Option aCt:=fun(dX,eo,_)=>(bif decide (eo>=(0:Int))==true then some (decide (eo<(((dX.1).length:Nat):Int)),()) else some (false,()))
def Dn:aCu->Option aCu:=fun(cN,_)=>Option.bind (α:=aCs) (bif decide (cN>=(65536:Int)) then(d6 IntKind.u32 cN (16:Int)).bind fun dU=>some (dU,(16:Int),()) else some (cN,(0:Int),())) fun(Cv,BQ,_)=>Option.bind (α:=aCs) (bif decide (Cv>=(256:Int)) then(d6 IntKind.u32 Cv (8:Int)).bind fun eH=>some (eH,IntKind.i64.wrap (BQ+(8:Int)),()) else some (Cv,BQ,())) fun(JI,y4,_)=>(vb NS (IntKind.u8.wrap JI)).bind fun akX=>some (IntKind.i64.wrap (y4+IntKind.i64.wrap akX),())
def Ya:aCu->Option aCu:=fun(cN,_)=>Option.bind (α:=aCs) (bif decide (cN>=(4294967296:Int)) then(d6 IntKind.u64 cN (32:Int)).bind fun dU=>some (dU,(32:Int),()) else some (cN,(0:Int),())) fun(Cv,BQ,_)=>Option.bind (α:=aCs) (bif decide (Cv>=(65536:Int)) then(d6 IntKind.u64 Cv (16:Int)).bind fun eH=>some (eH,IntKind.i64.wrap (BQ+(16:Int)),()) else some (Cv,BQ,())) fun(JI,y4,_)=>Option.bind (α:=aCs) (bif decide (JI>=(256:Int)) then(d6 IntKind.u64 JI (8:Int)).bind fun hJ=>some (hJ,IntKind.i64.wrap (y4+(8:Int)),()) else some (JI,y4,())) fun(az5,TV,_)=>(vb NS (IntKind.u8.wrap az5)).bind fun akV=>some (IntKind.i64.wrap (TV+IntKind.i64.wrap akV),())
def Qt:aCu->Option aCu:=fun(cN,_)=>(Ya (cN,())).bind fun(bo,_)=>some (bo,())
def Lx:(List Int×Int×Int×Unit)->Option aCq:=fun(AJ,Ac,FL,_)=>(loop (σ:=aCk) (ρ:=aCq) (fun(dK,Yb,_)=>bif decide (dK<FL) then(loop (σ:=aCk) (ρ:=aCq) (fun(mh,AL,_)=>Option.bind (α:=aCq⊕(aCk⊕aCq)) (bif decide (mh>Ac)==true then(cH AL.length mh).bind fun wC=>(cb AL wC fun QW=>some QW).bind fun gN=>(cH AL.length (IntKind.i64.wrap (mh-(1:Int)))).bind fun NF=>(cb AL NF fun GM=>some GM).bind fun h7=>(Au (gN,h7,())).bind fun(jJ,_)=>bif jJ then some (.inl (AL,())) else some (.inr (.inr (AL,()))) else some (.inr (.inr (AL,())))) fun q=>match q with
 |.inl (AK,_)=>((cH AK.length (IntKind.i64.wrap (mh-(1:Int)))).bind fun NG=>(cb AK NG fun al8=>some al8).bind fun tF=>(cH AK.length mh).bind fun aq3=>(cb AK aq3 fun QL=>some QL).bind fun q3=>(cH AK.length mh).bind fun HQ=>(cb AK HQ fun _=>some (AK.set HQ tF)).bind fun V2=>(cH V2.length (IntKind.i64.wrap (mh-(1:Int)))).bind fun HR=>(cb V2 HR fun _=>some (V2.set HR q3)).bind fun CD=>some (.inl (IntKind.i64.wrap (mh-(1:Int)),CD,())))
 |.inr r=>some r) (dK,Yb,())).bind fun(alQ,_)=>some (.inl (IntKind.i64.wrap (dK+(1:Int)),alQ,())) else some (.inr (Yb,()))) (IntKind.i64.wrap (Ac+(1:Int)),AJ,())).bind fun(QE,_)=>some (QE,())
def Lz:(List Int×Int×Int×Int×Unit)->Option aCq:=fun(AJ,Ac,FL,arL,_)=>(loop (σ:=(Int×Int×Int×Bool×Bool×List Int×Unit)) (ρ:=aCq) (fun(Ad,Xm,_,_,_,alN,_)=>bif decide (IntKind.i64.wrap (Xm-Ad)<=(12:Int)) then(Lx (alN,Ad,Xm,())).bind fun(ar5,_)=>some (.inr (ar5,())) else none) (Ac,FL,arL,true,true,AJ,())).bind some
def Gd:aCq->Option aCq:=fun(cN,_)=>(Qt (IntKind.u64.wrap ((cN.length:Nat):Int),())).bind fun(bo,_)=>(Lz (cN,(0:Int),((cN.length:Nat):Int),bo,())).bind fun(jg,_)=>some (jg,())
def Lb:List Int×Unit->Option aCt:=fun a=>(Jy (fun l=>(Gd (l,())).map fun r=>r.1) a.1).map fun b=>(b,())
def Qr:(Int×Option aCh×Unit)->Option aCt:=fun(azL,av6,_)=>av6.bind fun gO=>(Lc (gO,azL,())).bind fun(bw,_)=>some ((!bw),())
def Qx:aBW->Option aCu:=fun(f9,DB,_)=>(loop (σ:=aCu) (ρ:=aCn) (fun(iZ,_)=>bif decide (iZ<((f9.length:Nat):Int)) then(bf f9 iZ).bind fun e0=>(Qr (e0,DB.1,())).bind fun(bV,_)=>bif bV then some (.inr (.inr (iZ,()))) else some (.inl (IntKind.i64.wrap (iZ+(1:Int)),())) else some (.inr (.inl ()))) ((0:Int),())).bind fun q=>match q with
 |.inl _=>(some ((-1:Int),()))
 |.inr r=>some r
def Lv:aBW->Option aCt:=fun(f9,DB,_)=>(Qx (f9,(DB.1,()),())).bind fun(a5,_)=>some (decide (a5>=(0:Int)),())
def K7:aB3->Option aCu:=fun(dX,h4,_)=>(F1 (dX,())).bind fun(a5,_)=>(bif a5 !=(0:Int) then some (a5,()) else bif ((h4.length:Nat):Int)!=(((dX.1).length:Nat):Int) then some ((2:Int),()) else(Lv (h4,(some dX,()),())).bind fun(bw,_)=>bif bw==false then(Lb (h4,())).bind fun(bV,_)=>bif bV then some ((90:Int),()) else some ((0:Int),()) else some ((90:Int),()))
def F3:aCu->Option aCg:=fun(h3,_)=>(fJ h3 h3).bind fun mj=>(loop (σ:=aCd) (ρ:=aCg) (fun(iZ,eZ,_)=>bif decide (iZ<((((List.replicate mj []):List (List Bool)).length:Nat):Int)) then(fJ h3 h3).bind fun Iz=>(cH eZ.length iZ).bind fun rR=>(cb eZ rR fun _=>some (eZ.set rR (List.replicate Iz false))).bind fun V7=>some (.inl (IntKind.i64.wrap (iZ+(1:Int)),V7,())) else some (.inr (eZ,()))) ((0:Int),List.replicate mj [],())).bind fun(jj,_)=>some (jj,())
def F6:(List (List Bool)×Int×Int×Unit)->Option aCg:=fun(f9,eo,sd,_)=>(bif eo !=sd then(cH f9.length eo).bind fun fx=>(cH f9.length sd).bind fun rR=>((cb f9 fx fun vY=>some vY).bind fun QW=>cH QW.length sd).bind fun iG=>(cb f9 fx fun Yj=>(cb Yj iG fun _=>some (Yj.set iG true)).map fun tI=>f9.set fx tI).bind fun nb=>((cb nb rR fun AP=>some AP).bind fun al7=>cH al7.length eo).bind fun HP=>(cb nb rR fun Yk=>(cb Yk HP fun _=>some (Yk.set HP true)).map fun CC=>nb.set rR CC).bind fun JS=>some (JS,()) else some (f9,()))
def K8:(List (List Bool)×Int×Unit)->Option aCq:=fun(f9,eo,_)=>(bf f9 eo).bind fun e0=>(loop (σ:=aCk) (ρ:=aCq) (fun(gK,tk,_)=>bif decide (gK<((e0.length:Nat):Int)) then Option.bind (α:=aCq) ((bf e0 gK).bind fun ga=>bif ga then(di (tk.length+([gK]).length)).bind fun _=>some ((tk++[gK]),()) else some (tk,())) fun(jI,_)=>some (.inl (IntKind.i64.wrap (gK+(1:Int)),jI,())) else some (.inr (tk,()))) ((0:Int),[],())).bind fun(zd,_)=>some (zd,())
def F5:aCg->Option aCc:=fun(f9,_)=>(fJ ((f9.length:Nat):Int) ((f9.length:Nat):Int)).bind fun po=>(loop (σ:=aBU) (ρ:=aBV) (fun(eZ,gK,G5,_)=>bif decide (eZ<((f9.length:Nat):Int)) then(K8 (f9,eZ,())).bind fun(cV,_)=>(cH (G5.1).length eZ).bind fun wC=>((cb G5.1 wC fun _=>some ((G5.1).set wC cV)).map fun aAv=>(aAv,G5.2)).bind fun aAw=>some (.inl (IntKind.i64.wrap (eZ+(1:Int)),gK,aAw,())) else some (.inr (gK,G5,()))) ((0:Int),([],()),(List.replicate po [],()),())).bind fun(_,anY,_)=>some (anY,())
def La:aB3->Option aCc:=fun(dX,p0,_)=>(F3 (((p0.length:Nat):Int),())).bind fun(a5,_)=>(loop (σ:=aBX) (ρ:=aBY) (fun(eZ,gK,hI,_)=>bif decide (eZ<((p0.length:Nat):Int)) then(bf p0 eZ).bind fun ga=>((some (0)).bind fun yO=>(jh eZ).bind fun yP=>(jG yO yP p0.length).map fun _=>(yO,yP)).bind fun m0=>(loop (σ:=aBX) (ρ:=aBY) (fun(jK,pv,xa,_)=>bif decide (jK<((((p0.take m0.2).drop m0.1).length:Nat):Int)) then Option.bind (α:=aBY) ((bf ((p0.take m0.2).drop m0.1) jK).bind fun xw=>(Dh (dX,ga,xw,())).bind fun(qT,_)=>bif qT then(F6 (xa,eZ,jK,())).bind fun(ar7,_)=>some (pv,ar7,()) else some (pv,xa,())) fun(zp,u3,_)=>
 some (.inl (IntKind.i64.wrap (jK+(1:Int)),zp,u3,())) else some (.inr (pv,xa,()))) ((0:Int),gK,hI,())).bind fun(xb,zq,_)=>some (.inl (IntKind.i64.wrap (eZ+(1:Int)),xb,zq,())) else some (.inr (gK,hI,()))) ((0:Int),([],()),a5,())).bind fun(_,Cg,_)=>(F5 (Cg,())).bind fun(I4,_)=>some (I4,())
def F4:aB3->Option aCa:=fun(dX,h4,_)=>(K7 (dX,h4,())).bind fun(a5,_)=>(bif a5 !=(0:Int) then some (([],()),a5,()) else(La (dX,h4,())).bind fun(bw,_)=>some (bw,(0:Int),()))
def Dd:aCs->Option aCu:=fun(cN,tH,_)=>(x3 (cN,())).bind fun(a5,_)=>(x3 (tH,())).bind fun(bw,_)=>(bif a5 then bif bw then some ((0:Int),()) else some ((-1:Int),()) else bif bw then some ((1:Int),()) else bif decide (cN<tH) then some ((-1:Int),()) else bif decide (cN>tH) then some ((1:Int),()) else some ((0:Int),()))
def KP:aCq->Option aCu:=fun(afv,_)=>(loop (σ:=aCu) (ρ:=aCn) (fun(ln,_)=>bif decide (ln<((afv.length:Nat):Int)) then(bf afv ln).bind fun gO=>bif gO !=(0:Int) then some (.inr (.inr (gO,()))) else some (.inl (IntKind.i64.wrap (ln+(1:Int)),())) else some (.inr (.inl ()))) ((0:Int),())).bind fun q=>match q with
 |.inl _=>(some ((0:Int),()))
 |.inr r=>some r
abbrev bx:Type:=(List Int)
abbrev fV:Type:=(bx×Unit)
abbrev dB:Type:=(Bool×fV)
abbrev b8:Type:=aCu
abbrev dO:Type:=(Bool×(dB×b8))
abbrev WG:Type:=(bx×(bx×fV))
abbrev oS:Type:=(List dO)
abbrev nr:Type:=(List (Int×(Int×b8)))
abbrev oT:Type:=(List bx×(List bx×(List (Option (List (Int×dO)×Nat))×(List bx×Unit))))
abbrev cW:Type:=(Int×(Int×WG))
abbrev gP:Type:=aCt
abbrev rn:Type:=(Int×((List bx×Unit)×(List (Option (List (Int×dO)×Nat))×Unit)))
abbrev fU:Type:=(bx×WG)
abbrev gF:Type:=(dO×Unit)
abbrev fC:Type:=(dB×Unit)
abbrev Aa:Type:=(dO×dO×Unit)
abbrev jr:Type:=(Int×bx×Unit)
abbrev nq:Type:=(List Bool)
abbrev Ab:Type:=(fU×Int×Int×Unit)
abbrev sq:Type:=(Unit⊕gP)
abbrev l4:Type:=(nr×Unit)
abbrev CZ:Type:=(Int×fU×List bx×fU×Unit)
abbrev vB:Type:=(Int×nr×Unit)
abbrev k3:Type:=(bx×bx×Unit)
abbrev mG:Type:=(dB×dB×Unit)
abbrev sr:Type:=(Unit⊕b8)
abbrev ro:Type:=(bx×Int×Unit)
abbrev qp:Type:=aCs
abbrev PH:Type:=(Int×Int×nr×Unit)
abbrev xS:Type:=(Bool×(dB×(Int×gP)))
abbrev t7:Type:=(Int×Int×bx×Unit)
abbrev ss:Type:=(dB×Int×Unit)
abbrev PI:Type:=((fU×List bx×fU×Unit)⊕(CZ⊕((fU×fU×Unit)⊕Ab)))
abbrev pN:Type:=(cW×Unit)
def oY:fV->Option fV:=fun(b0,_)=>(loop (σ:=b8) (ρ:=b8) (fun(y3,_)=>Option.bind (α:=Unit⊕(b8⊕b8)) (bif decide (y3>0)==true then(bf b0 (aQ (y3-1))).bind fun ep=>bif ep==0 then some (.inl ()) else some (.inr (.inr (y3,()))) else some (.inr (.inr (y3,())))) fun q=>match q with
 |.inl _=>(some (.inl (aQ (y3-1),())))
 |.inr r=>some r) (aS b0,())).bind fun(y4,_)=>(loop (σ:=jr) (ρ:=fV) (fun(ha,zd,_)=>bif decide (ha<y4) then(bf b0 ha).bind fun gN=>(di (zd.length+([gN]).length)).bind fun _=>some (.inl (bN ha,(zd++[gN]),())) else some (.inr (zd,()))) (0,[],())).bind fun(wY,_)=>some (wY,())
def oe:(Bool×bx×Unit)->Option fC:=fun(iX,pk,_)=>(oY (pk,())).bind fun(a5,_)=>(bif iX==true then some ((decide (aS a5>0),(a5,())),()) else some ((false,(a5,())),()))
def vQ:b8->Option fC:=fun(h3,_)=>Option.bind (α:=(Int×dB×Unit)) (bif decide (h3<0) then some (bc (bc (aQ (0-bN h3))+1),(false,([],())),()) else some (bc h3,(false,([],())),())) fun(JA,_,_)=>(d6 IntKind.u64 JA 32).bind fun e0=>(oe (decide (h3<0),[dt JA,dt e0],())).bind fun(bV,_)=>some (bV,())
def ug:fC->Option fC:=fun(ba,_)=>(oe (ba.1,ba.2.1,())).bind fun(bo,_)=>some (bo,())
def AF:Unit->Option gF:=fun _=>some ((true,((false,([],())),((0:Int),()))),())
def Do:b8->Option b8:=fun(cN,_)=>(bif cN==0 then some (32,()) else(d6 IntKind.u32 (dt (ed IntKind.u32 cN (dt (0-cN))*125613361)) 27).bind fun dU=>(bf uc dU).bind fun gO=>some (aQ gO,()))
def vR:fC->Option b8:=fun(ba,_)=>(oY (ba.2.1,())).bind fun(bo,_)=>(loop (σ:=b8) (ρ:=sr) (fun(eL,_)=>bif decide (eL<aS bo) then(bf bo eL).bind fun e0=>bif e0 !=0 then(bf bo eL).bind fun eH=>(Do (eH,())).bind fun(cq,_)=>some (.inr (.inr (aQ (aQ (32*eL)+cq),()))) else some (.inl (bN eL,())) else some (.inr (.inl ()))) (0,())).bind fun q=>match q with
 |.inl _=>(some (0,()))
 |.inr r=>some r
def vO:fC->Option fC:=fun(ba,_)=>(oe (false,ba.2.1,())).bind fun(bo,_)=>some (bo,())
def Dr:ro->Option fV:=fun(b0,c5,_)=>(ip IntKind.i64 c5 32).bind fun gO=>(fJ gO gO).bind fun p2=>(loop (σ:=t7) (ρ:=jr) (fun(KD,SU,Uv,_)=>bif decide (SU<aS b0) then(bf b0 SU).bind fun hJ=>(ji c5 32).bind fun dj=>(iq IntKind.u64 (bc hJ) dj).bind fun gN=>(di (Uv.length+([dt (fF IntKind.u64 KD gN)]).length)).bind fun _=>(d6 IntKind.u64 (fF IntKind.u64 KD gN) 32).bind fun hA=>some (.inl (hA,bN SU,(Uv++[dt (fF IntKind.u64 KD gN)]),())) else some (.inr (KD,Uv,()))) (0,0,List.replicate p2 (0:Int),())).bind fun(FO,p5,_)=>(di (p5.length+([dt FO]).length)).bind fun _=>some ((p5++[dt FO]),())
def Ds:ro->Option (bx×Bool×Unit):=fun(b0,c5,_)=>(loop (σ:=aCr) (ρ:=gP) (fun(Ty,Nx,_)=>Option.bind (α:=Unit⊕(aCr⊕gP)) ((ip IntKind.i64 c5 32).bind fun h7=>bif decide (Nx<h7)==true then bif decide (Nx<aS b0) then some (.inl ()) else some (.inr (.inr (Ty,()))) else some (.inr (.inr (Ty,())))) fun q=>match q with
 |.inl _=>(Option.bind (α:=gP) (bif Ty==false then(bf b0 Nx).bind fun xw=>some ((xw !=0),()) else some (true,())) fun(arV,_)=>some (.inl (arV,bN Nx,())))
 |.inr r=>some r) (false,0,())).bind fun(arW,_)=>(ji c5 32).bind fun m9=>(ip IntKind.i64 c5 32).bind fun tF=>(loop (σ:=(Bool×Int×bx×Unit)) (ρ:=(Bool×bx×Unit)) (fun(Tz,Bw,BW,_)=>bif decide (Bw<aS b0) then Option.bind (α:=(Bool×bx×Unit)) ((bf b0 Bw).bind fun j7=>Option.bind (α:=jr) (bif decide (bN Bw<aS b0) then(bf b0 (bN Bw)).bind fun VT=>(iq IntKind.u64 (bc VT) 32).bind fun aAf=>some (fF IntKind.u64 (bc j7) aAf,BW,()) else some (bc j7,BW,())) fun(az4,zc,_)=>Option.bind (α:=(Bool×bx×Unit)) ((ip IntKind.i64 c5 32).bind fun q4=>bif (Bw==q4)==true then(bf b0 Bw).bind fun sf=>(iq IntKind.u32 1 m9).bind fun JM=>bif ed IntKind.u32 sf (dt (JM-1))!=0 then some (true,zc,()) else some (Tz,zc,()) else some (Tz,zc,())) fun(arX,Ol,_)=>(d6 IntKind.u64 az4 m9).bind fun Fe=>(di (Ol.length+([dt Fe]).length)).bind fun _=>some (arX,(Ol++[dt Fe]),())) fun(arY,avV,_)=>some (.inl (arY,bN Bw,avV,())) else
 some (.inr (Tz,BW,()))) (arW,tF,[],())).bind fun(ar0,avW,_)=>some (avW,ar0,())
def Gq:fC->Option fC:=fun(ba,_)=>(oe ((!ba.1),ba.2.1,())).bind fun(bo,_)=>some (bo,())
def LJ:k3->Option fV:=fun(ba,b1,_)=>(loop (σ:=t7) (ρ:=jr) (fun(Qa,dK,rW,_)=>bif decide (dK<(if(aS b1)>aS ba then aS b1 else aS ba)) then Option.bind (α:=jr) (Option.bind (α:=jr) (bif decide (dK<aS ba) then(bf ba dK).bind fun ep=>some (bc (Qa+bc ep),rW,()) else some (Qa,rW,())) fun(XF,jI,_)=>Option.bind (α:=jr) (bif decide (dK<aS b1) then(bf b1 dK).bind fun dj=>some (bc (XF+bc dj),jI,()) else some (XF,jI,())) fun(P7,wY,_)=>(di (wY.length+([dt P7]).length)).bind fun _=>(d6 IntKind.u64 P7 32).bind fun dd=>some (dd,(wY++[dt P7]),())) fun(P8,p6,_)=>some (.inl (P8,bN dK,p6,())) else some (.inr (Qa,rW,()))) (0,0,[],())).bind fun(oW,tj,_)=>(di (tj.length+([dt oW]).length)).bind fun _=>some ((tj++[dt oW]),())
def Gr:k3->Option b8:=fun(ba,b1,_)=>(bif aS ba !=aS b1 then bif decide (aS ba<aS b1) then some ((-1:Int),()) else some (1,()) else((loop (σ:=b8) (ρ:=sr) (fun(eL,_)=>bif decide (eL>=0) then(bf ba eL).bind fun e0=>(bf b1 eL).bind fun eH=>bif e0 !=eH then(bf ba eL).bind fun ep=>(bf b1 eL).bind fun ga=>bif decide (ep<ga) then some (.inr (.inr ((-1:Int),()))) else some (.inr (.inr (1,()))) else some (.inl (aQ (eL-1),())) else some (.inr (.inl ()))) (aQ (aS ba-1),())).bind fun q=>match q with
 |.inl _=>(some (0,()))
 |.inr r=>some r))
def Gs:k3->Option fV:=fun(ba,b1,_)=>(loop (σ:=t7) (ρ:=fV) (fun(XC,dK,rW,_)=>bif decide (dK<aS ba) then Option.bind (α:=jr) ((bf ba dK).bind fun ep=>Option.bind (α:=jr) (bif decide (dK<aS b1) then(bf b1 dK).bind fun ga=>some (bc (bc (bc ep-XC)-bc ga),rW,()) else some (bc (bc ep-XC),rW,())) fun(Vs,zd,_)=>(di (zd.length+([dt Vs]).length)).bind fun _=>(d6 IntKind.u64 Vs 63).bind fun gN=>some (gN,(zd++[dt Vs]),())) fun(akI,zb,_)=>some (.inl (akI,bN dK,zb,())) else some (.inr (rW,()))) (0,0,[],())).bind fun(p5,_)=>some (p5,())
def uf:mG->Option fC:=fun(ba,b1,_)=>(oY (ba.2.1,())).bind fun(a5,_)=>(oY (b1.2.1,())).bind fun(bw,_)=>(bif ba.1==b1.1 then(LJ (a5,bw,())).bind fun(bV,_)=>(oe (ba.1,bV,())).bind fun(cq,_)=>some (cq,()) else(Gr (a5,bw,())).bind fun(cV,_)=>bif decide (cV>=0) then(Gs (a5,bw,())).bind fun(ev,_)=>(oe (ba.1,ev,())).bind fun(eQ,_)=>some (eQ,()) else(Gs (bw,a5,())).bind fun(gx,_)=>(oe (b1.1,gx,())).bind fun(f8,_)=>some (f8,()))
def Dq:mG->Option fC:=fun(ba,b1,_)=>(Gq (b1,())).bind fun(a5,_)=>(uf (ba,a5,())).bind fun(bw,_)=>some (bw,())
def oX:ss->Option fC:=fun(ba,c5,_)=>(ug (ba,())).bind fun(a5,_)=>(bif decide (c5>=0) then(Dr (a5.2.1,c5,())).bind fun(bw,_)=>(oe (a5.1,bw,())).bind fun(bV,_)=>some (bV,()) else(Ds (a5.2.1,aQ (0-c5),())).bind fun(cq,cV,_)=>(oe (a5.1,cq,())).bind fun(ev,_)=>Option.bind (α:=mG) (Option.bind (α:=(Bool×dB×dB×Unit)) (bif a5.1==true then some (cV,(false,([],())),ev,()) else some (false,(false,([],())),ev,())) fun(jj,qX,wY,_)=>bif jj then(vQ (1,())).bind fun(iK,_)=>(Dq (wY,iK,())).bind fun(hH,_)=>some (qX,hH,()) else some (qX,wY,())) fun(_,IS,_)=>some (IS,()))
def Dt:ss->Option fC:=fun(b0,c5,_)=>(loop (σ:=(Int×dB×dB×Unit)) (ρ:=(Int×dB×dB×Unit)) (fun(j2,abI,gK,_)=>bif decide (j2>1048576) then(oX (abI,(-1048576:Int),())).bind fun(cq,_)=>some (.inl (aQ (j2-1048576),cq,gK,())) else some (.inr (j2,abI,gK,()))) (c5,b0,(false,([],())),())).bind fun(y4,bd,_,_)=>(oX (bd,aQ (0-y4),())).bind fun(gx,_)=>some (gx,())
def vP:fC->Option b8:=fun(ba,_)=>(oY (ba.2.1,())).bind fun(bo,_)=>(bif aS bo==0 then some (0,()) else(bf bo (aQ (aS bo-1))).bind fun gO=>(Dn (gO,())).bind fun(bw,_)=>some (aQ (aQ (32*aQ (aS bo-1))+bw),()))
def sE:ss->Option gF:=fun(NZ,qw,_)=>(ug (NZ,())).bind fun(a5,_)=>(bif aS a5.2.1==0 then some ((false,((false,([],())),((0:Int),()))),()) else bif decide (qw>65536) then(AF ()).bind fun(bw,_)=>some (bw,()) else((vR (a5,())).bind fun(bV,_)=>(vO (a5,())).bind fun(cq,_)=>(Dt (cq,bV,())).bind fun(cV,_)=>Option.bind (α:=(dO×dB×Unit)⊕gF) (Option.bind (α:=(Bool×dO×dB×Unit)) (bif decide (aQ (qw+bV)<(-65536:Int))==false then(vP (cV,())).bind fun(ev,_)=>some (decide (aQ (aQ (qw+bV)+ev)>65536),(false,((false,([],())),((0:Int),()))),cV,()) else some (true,(false,((false,([],())),((0:Int),()))),cV,())) fun(jj,qX,ash,_)=>bif jj then(AF ()).bind fun(iK,_)=>some (.inr (iK,())) else some (.inl (qX,ash,()))) fun q=>match q with
 |.inl (_,asj,_)=>(some ((false,((NZ.1,asj.2),(aQ (qw+bV),()))),()))
 |.inr r=>some r))
def Gu:b8->Option gF:=fun(h3,_)=>(vQ (h3,())).bind fun(bo,_)=>(sE (bo,0,())).bind fun(a5,_)=>some (a5,())
def qv:gF->Option gF:=fun(hn,_)=>(bif hn.1 then(AF ()).bind fun(bo,_)=>some (bo,()) else(sE (hn.2.1,hn.2.2.1,())).bind fun(a5,_)=>some (a5,()))
def nw:fC->Option b8:=fun(ba,_)=>(ug (ba,())).bind fun(bo,_)=>(bif aS bo.2.1==0 then some (0,()) else bif bo.1 then some ((-1:Int),()) else some (1,()))
def vS:aCr->Option b8:=fun(iX,DB,_)=>(bif iX then some (fF IntKind.u64 DB 9223372036854775808,()) else some (DB,()))
def Gy:aCr->Option b8:=fun(iX,lN,_)=>Option.bind (α:=Unit⊕b8) (Option.bind (α:=gP) (bif (lN==3)==false then bif (lN==1)==true then bif (!iX)==false then bif (lN==2)==true then some (iX,()) else some (false,()) else some (true,()) else bif (lN==2)==true then some (iX,()) else some (false,()) else some (true,())) fun(iZ,_)=>bif iZ then(vS (iX,9218868437227405311,())).bind fun(bw,_)=>some (.inr (bw,())) else some (.inl ())) fun q=>match q with
 |.inl _=>((vS (iX,9218868437227405312,())).bind fun(bV,_)=>some (bV,()))
 |.inr r=>some r
def Gn:ss->Option gP:=fun(ba,c5,_)=>(oY (ba.2.1,())).bind fun(a5,_)=>(Ds (a5,c5,())).bind fun(_,bV,_)=>some (bV,())
def LS:(Bool×Int×Bool×Int×Unit)->Option gP:=fun(iX,ZB,atH,TO,_)=>(bif TO==1 then some (iX,()) else bif TO==2 then some ((!iX),()) else bif TO==3 then some (false,()) else bif decide (ZB>0)==false then bif (ZB==0)==true then some (atH,()) else some (false,()) else some (true,()))
def LN:(Bool×dB×Int×Bool×Int×Unit)->Option fC:=fun(iX,pk,j2,N7,Iv,_)=>(Dt (pk,j2,())).bind fun(cq,_)=>(Gn (pk,j2,())).bind fun(cV,_)=>Option.bind (α:=mG⊕fC) (Option.bind (α:=(Bool×dB×dB×Unit)) (bif (!cV)==true then some ((!N7),(false,([],())),cq,()) else some (false,(false,([],())),cq,())) fun(lq,jj,adC,_)=>bif lq then some (.inr (adC,())) else some (.inl (jj,adC,()))) fun q=>match q with
 |.inl (jK,UF,_)=>(Option.bind (α:=(Int×dB×dB×Unit)) (bif decide (j2>0) then(Dt (pk,aQ (j2-1),())).bind fun(hH,_)=>Option.bind (α:=(Bool×dB×dB×Unit)) ((vR (hH,())).bind fun(jJ,_)=>bif (jJ==0)==true then(nw (hH,())).bind fun(qT,_)=>some ((qT !=0),jK,UF,()) else some (false,jK,UF,())) fun(Cf,zp,EN,_)=>bif Cf then bif N7==false then(Gn (pk,aQ (j2-1),())).bind fun(I2,_)=>bif I2 then some (1,zp,EN,()) else some (0,zp,EN,()) else some (1,zp,EN,()) else some ((-1:Int),zp,EN,()) else some ((-1:Int),jK,UF,())) fun(aoJ,aev,Oz,_)=>Option.bind (α:=(Bool×dB×dB×Unit)) ((nw (Oz,())).bind fun(I4,_)=>bif (I4 !=0)==true then(vR (Oz,())).bind fun(UK,_)=>some ((UK==0),aev,Oz,()) else some (false,aev,Oz,())) fun(atG,zr,zg,_)=>Option.bind (α:=mG) ((LS (iX,aoJ,atG,Iv,())).bind fun(awN,_)=>
  bif awN then(vQ (1,())).bind fun(I5,_)=>(uf (zg,I5,())).bind fun(EQ,_)=>some (zr,EQ,()) else some (zr,zg,())) fun(_,awB,_)=>some (awB,()))
 |.inr r=>some r
def LH:fC->Option aCp:=fun(ba,_)=>(ug (ba,())).bind fun(bo,_)=>(bif decide (aS bo.2.1>2) then some (0,false,()) else(loop (σ:=(Int×Int×dB×Unit)) (ρ:=(Int×dB×Unit)) (fun(zy,dK,Ad,_)=>bif decide (dK<aS Ad.2.1) then(bf Ad.2.1 dK).bind fun ep=>(iq IntKind.u64 (bc ep) (aQ (32*dK))).bind fun ga=>some (.inl (fF IntKind.u64 zy ga,bN dK,Ad,())) else some (.inr (zy,Ad,()))) (0,0,bo,())).bind fun(Pb,PK,_)=>bif PK.1 then bif decide (Pb>9223372036854775808) then some (0,false,()) else some (aQ (aQ (0-aQ (bc (Pb-1)))-1),true,()) else bif decide (Pb>9223372036854775807) then some (0,false,()) else some (aQ Pb,true,()))
def Du:(Bool×dB×Int×Bool×Int×Unit)->Option b8:=fun(iX,pk,pP,N7,Iv,_)=>(vP (pk,())).bind fun(cq,_)=>(bif decide (aQ (aQ (pP+cq)-1)>=1024) then(Gy (iX,Iv,())).bind fun(cV,_)=>some (cV,()) else(Option.bind (α:=fC) (bif decide ((if(-1074:Int)>aQ (aQ (aQ (pP+cq)-1)-52) then(-1074:Int) else aQ (aQ (aQ (pP+cq)-1)-52))>=pP) then(LN (iX,pk,aQ ((if(-1074:Int)>aQ (aQ (aQ (pP+cq)-1)-52) then(-1074:Int) else aQ (aQ (aQ (pP+cq)-1)-52))-pP),N7,Iv,())).bind fun(ev,_)=>some (ev,()) else(oX (pk,aQ (pP-(if(-1074:Int)>aQ (aQ (aQ (pP+cq)-1)-52) then(-1074:Int) else aQ (aQ (aQ (pP+cq)-1)-52))),())).bind fun(eQ,_)=>some (eQ,())) fun(TV,_)=>(LH (TV,())).bind fun(f8,_,_)=>Option.bind (α:=qp) (bif f8==9007199254740992 then some (bN (if(-1074:Int)>aQ (aQ (aQ (pP+cq)-1)-52) then(-1074:Int) else aQ (aQ (aQ (pP+cq)-1)-52)),4503599627370496,()) else
 some ((if(-1074:Int)>aQ (aQ (aQ (pP+cq)-1)-52) then(-1074:Int) else aQ (aQ (aQ (pP+cq)-1)-52)),f8,())) fun(afm,NK,_)=>Option.bind (α:=Unit⊕b8) (Option.bind (α:=gP) (bif decide (NK>=4503599627370496)==true then some (decide (aQ (afm+53)>1024),()) else some (false,())) fun(qY,_)=>bif qY then(Gy (iX,Iv,())).bind fun(qU,_)=>some (.inr (qU,())) else bif decide (NK>=4503599627370496) then(iq IntKind.u64 (bc (aQ (afm+1075))) 52).bind fun m9=>(vS (iX,fF IntKind.u64 m9 (bc (aQ (NK-4503599627370496))),())).bind fun(w7,_)=>some (.inr (w7,())) else some (.inl ())) fun q=>match q with
 |.inl _=>((vS (iX,bc NK,())).bind fun(I2,_)=>some (I2,()))
 |.inr r=>some r))
def Gx:(dO×Int×Unit)->Option b8:=fun(hn,lN,_)=>(qv (hn,())).bind fun(a5,_)=>(bif a5.1 then some (9221120237041090560,()) else(nw (a5.2.1,())).bind fun(bw,_)=>bif bw==0 then some (0,()) else(vO (a5.2.1,())).bind fun(bV,_)=>(Du (a5.2.1.1,bV,a5.2.2.1,false,lN,())).bind fun(cq,_)=>some (cq,()))
def AG:qp->Option b8:=fun(h3,lN,_)=>(Gu (h3,())).bind fun(a5,_)=>(Gx (a5,lN,())).bind fun(bw,_)=>some (bw,())
def Dg:b8->Option qp:=fun(hY,_)=>(d6 IntKind.u64 hY 52).bind fun dU=>some (aQ (ed IntKind.u64 dU 2047),ed IntKind.u64 hY 4503599627370495,())
def Av:b8->Option gP:=fun(hY,_)=>(Dg (hY,())).bind fun(bo,_,_)=>some ((bo !=2047),())
def iS:fV->Option fV:=fun(fc,_)=>(loop (σ:=b8) (ρ:=b8) (fun(c5,_)=>Option.bind (α:=Unit⊕(b8⊕b8)) (bif decide (c5>0)==true then(bf fc (aQ (c5-1))).bind fun gO=>bif gO==0 then some (.inl ()) else some (.inr (.inr (c5,()))) else some (.inr (.inr (c5,())))) fun q=>match q with
 |.inl _=>(some (.inl (aQ (c5-1),())))
 |.inr r=>some r) (aS fc,())).bind fun(BQ,_)=>((some (0)).bind fun H5=>(jh BQ).bind fun H6=>(jG H5 H6 fc.length).map fun _=>(H5,H6)).bind fun B3=>some (((fc.take B3.2).drop B3.1),())
def nv:(Bool×bx×Unit)->Option fC:=fun(iX,asx,_)=>(iS (asx,())).bind fun(a5,_)=>(bif aS a5==0 then some ((false,(([]:bx),())),()) else some ((iX,(a5,())),()))
def Dj:b8->Option fC:=fun(h3,_)=>Option.bind (α:=(Int×dB×Unit)) (bif decide (h3<0) then some (bc (0-bc h3),(false,([],())),()) else some (bc h3,(false,([],())),())) fun(JA,_,_)=>(d6 IntKind.u64 JA 32).bind fun e0=>(nv (decide (h3<0),[dt (ed IntKind.u64 JA 4294967295),dt e0],())).bind fun(bV,_)=>some (bV,())
def K5:b8->Option gP:=fun(hY,_)=>some ((ed IntKind.u64 hY 9223372036854775808 !=0),())
def AD:fV->Option fV:=fun(f9,_)=>rT f9.length (some ([],())) ((di (([]:bx).length+f9.length)).bind fun _=>some (([]++f9),()))
def x5:fC->Option fC:=fun(ba,_)=>(AD (ba.2.1,())).bind fun(bo,_)=>(nv ((!ba.1),bo,())).bind fun(a5,_)=>some (a5,())
def FX:Unit->Option gF:=fun _=>some ((true,((false,([],())),((0:Int),()))),())
def Lf:fC->Option fC:=fun(ba,_)=>(AD (ba.2.1,())).bind fun(bo,_)=>(nv (ba.1,bo,())).bind fun(a5,_)=>some (a5,())
def sD:fC->Option b8:=fun(ba,_)=>(iS (ba.2.1,())).bind fun(bo,_)=>(bif aS bo==0 then some (0,()) else bif ba.1 then some ((-1:Int),()) else some (1,()))
def F9:fC->Option b8:=fun(ba,_)=>(loop (σ:=b8) (ρ:=sr) (fun(ln,_)=>bif decide (ln<aS ba.2.1) then(bf ba.2.1 ln).bind fun gO=>bif gO !=0 then(Do (gO,())).bind fun(bw,_)=>some (.inr (.inr (aQ (aQ (ln*32)+bw),()))) else some (.inl (bN ln,())) else some (.inr (.inl ()))) (0,())).bind fun q=>match q with
 |.inl _=>(some (0,()))
 |.inr r=>some r
def Dl:fV->Option b8:=fun(ba,_)=>(bif aS ba==0 then some (0,()) else(bf ba (aQ (aS ba-1))).bind fun dU=>(Dn (dU,())).bind fun(a5,_)=>some (aQ (aQ (aQ (aS ba-1)*32)+a5),()))
def vM:fC->Option b8:=fun(ba,_)=>(iS (ba.2.1,())).bind fun(bo,_)=>(Dl (bo,())).bind fun(a5,_)=>some (a5,())
def AB:ro->Option fV:=fun(ba,c5,_)=>(bif aS ba==0 then some ([],()) else(ip IntKind.i64 c5 32).bind fun q3=>(ji c5 32).bind fun j7=>(fJ (bN (aQ (q3+aS ba))) (bN (aQ (q3+aS ba)))).bind fun ata=>(loop (σ:=jr) (ρ:=fV) (fun(r2,IT,_)=>bif decide (r2<aS ba) then(bf ba r2).bind fun se=>(iq IntKind.u64 (bc se) (bc j7)).bind fun q4=>rd IT (aQ (q3+r2)) fun aAg=>wr IT (aQ (q3+r2)) (fF IntKind.u32 aAg (dt (ed IntKind.u64 q4 4294967295))) fun aAz=>(d6 IntKind.u64 q4 32).bind fun mv=>wr aAz (bN (aQ (q3+r2))) (dt mv) fun CE=>some (.inl (bN r2,CE,())) else some (.inr (IT,()))) (0,List.replicate ata (0:Int),())).bind fun(avX,_)=>(iS (avX,())).bind fun(UO,_)=>some (UO,()))
def Qs:b8->Option gP:=fun(cN,_)=>some ((cN !=0),())
def Qy:(bx×Unit×Unit)->Option b8:=fun(f9,_,_)=>(loop (σ:=b8) (ρ:=sr) (fun(iZ,_)=>bif decide (iZ<aS f9) then(bf f9 iZ).bind fun e0=>(Qs (e0,())).bind fun(bV,_)=>bif bV then some (.inr (.inr (iZ,()))) else some (.inl (bN iZ,())) else some (.inr (.inl ()))) (0,())).bind fun q=>match q with
 |.inl _=>(some ((-1:Int),()))
 |.inr r=>some r
def Gc:(bx×Unit×Unit)->Option gP:=fun(f9,_,_)=>(Qy (f9,(),())).bind fun(a5,_)=>some (decide (a5>=0),())
def Dk:ro->Option (bx×Bool×Unit):=fun(ba,c5,_)=>(ip IntKind.i64 c5 32).bind fun se=>(ji c5 32).bind fun q4=>(bif decide (se>=aS ba) then some ([],decide (aS ba>0),()) else Option.bind (α:=gP) (((some (0)).bind fun abi=>(jh se).bind fun abj=>(jG abi abj ba.length).map fun _=>(abi,abj)).bind fun adA=>(Gc (((ba.take adA.2).drop adA.1),(),())).bind fun(uW,_)=>bif uW==false then(bf ba se).bind fun Fe=>(iq IntKind.u32 1 (bc q4)).bind fun VW=>some ((ed IntKind.u32 Fe (dt (VW-1))!=0),()) else some (true,())) fun(arZ,_)=>(fJ (aQ (aS ba-se)) (aQ (aS ba-se))).bind fun ab5=>(loop (σ:=jr) (ρ:=fV) (fun(EX,Us,_)=>bif decide (EX<aS (List.replicate ab5 (0:Int))) then Option.bind (α:=fV) ((bf ba (aQ (se+EX))).bind fun sg=>Option.bind (α:=jr) (bif decide (bN (aQ (se+EX))<aS ba) then(bf ba (bN (aQ (se+EX)))).bind fun aAk=>(iq IntKind.u64 (bc aAk) 32).bind fun aAl=>some (fF IntKind.u64 (bc sg) aAl,Us,()) else some (bc sg,Us,())) fun(ay3,avZ,_)=>
 (d6 IntKind.u64 ay3 (bc q4)).bind fun aAm=>wr avZ EX (dt (ed IntKind.u64 aAm 4294967295)) fun zI=>some (zI,())) fun(Uu,_)=>some (.inl (bN EX,Uu,())) else some (.inr (Us,()))) (0,List.replicate ab5 (0:Int),())).bind fun(av1,_)=>(iS (av1,())).bind fun(awW,_)=>some (awW,arZ,()))
def AA:k3->Option fV:=fun(ba,b1,_)=>Option.bind (α:=k3) (bif decide (aS ba<aS b1) then some (b1,ba,()) else some (ba,b1,())) fun(PJ,Xl,_)=>(fJ 0 (bN (aS PJ))).bind fun Iz=>(loop (σ:=t7) (ρ:=jr) (fun(Qd,hf,jI,_)=>bif decide (hf<aS PJ) then Option.bind (α:=jr) ((bf PJ hf).bind fun dj=>Option.bind (α:=jr) (bif decide (hf<aS Xl) then(bf Xl hf).bind fun gN=>some (bc (bc (bc dj+Qd)+bc gN),jI,()) else some (bc (bc dj+Qd),jI,())) fun(Vr,zb,_)=>(di (zb.length+([dt (ed IntKind.u64 Vr 4294967295)]).length)).bind fun _=>(d6 IntKind.u64 Vr 32).bind fun h7=>some (h7,(zb++[dt (ed IntKind.u64 Vr 4294967295)]),())) fun(ak5,IS,_)=>some (.inl (ak5,bN hf,IS,())) else some (.inr (Qd,jI,()))) (0,0,List.replicate Iz (0:Int),())).bind fun(XH,Oj,_)=>(di (Oj.length+([dt XH]).length)).bind fun _=>(iS ((Oj++[dt XH]),())).bind fun(w7,_)=>some (w7,())
def vN:ss->Option ss:=fun(ba,c5,_)=>Option.bind (α:=fC⊕ss) (Option.bind (α:=(Bool×dB×Unit)) (bif decide (c5<(-1048576:Int))==false then some (decide (c5>1048576),(false,([],())),()) else some (true,(false,([],())),())) fun(iZ,eZ,_)=>bif iZ then some (.inr ((false,(([]:bx),())),3,())) else some (.inl (eZ,()))) fun q=>match q with
 |.inl (gK,_)=>((iS (ba.2.1,())).bind fun(cq,_)=>bif decide (c5>=0) then(AB (cq,c5,())).bind fun(cV,_)=>(nv (ba.1,cV,())).bind fun(ev,_)=>some (ev,0,()) else(Dk (cq,aQ (0-c5),())).bind fun(eQ,gx,_)=>Option.bind (α:=(bx×dB×Unit)) (Option.bind (α:=(Bool×dB×Unit)) (bif ba.1==true then some (gx,gK,()) else some (false,gK,())) fun(jK,pv,_)=>bif jK then(AA (eQ,[1],())).bind fun(hH,_)=>some (hH,pv,()) else some (eQ,pv,())) fun(p6,_,_)=>(nv (ba.1,p6,())).bind fun(qU,_)=>some (qU,0,()))
 |.inr r=>some r
def FY:ss->Option fC:=fun(ba,c5,_)=>(loop (σ:=(Int×dB×dB×Unit)) (ρ:=(Int×dB×dB×Unit)) (fun(j2,FH,gK,_)=>bif decide (j2>1048576) then(vN (FH,(-1048576:Int),())).bind fun(cq,_,_)=>some (.inl (aQ (j2-1048576),cq,gK,())) else some (.inr (j2,FH,gK,()))) (c5,ba,(false,([],())),())).bind fun(ath,PK,_,_)=>(vN (PK,aQ (0-ath),())).bind fun(f8,_,_)=>some (f8,())
def sC:gF->Option (dO×Bool×Unit):=fun(hn,_)=>(bif hn.1 then(FX ()).bind fun(bo,_)=>some (bo,false,()) else(Lf (hn.2.1,())).bind fun(a5,_)=>(sD (a5,())).bind fun(bw,_)=>bif bw==0 then some ((false,((false,([],())),((0:Int),()))),true,()) else((F9 (a5,())).bind fun(bV,_)=>Option.bind (α:=(dO×dB×Unit)⊕(dO×Bool×Unit)) (Option.bind (α:=(Bool×dO×dB×Unit)) ((vM (a5,())).bind fun(cq,_)=>bif decide (hn.2.2.1>aQ (65536-cq))==false then some (decide (hn.2.2.1<aQ ((-65536:Int)-bV)),(false,((false,([],())),((0:Int),()))),a5,()) else some (true,(false,((false,([],())),((0:Int),()))),a5,())) fun(hf,lq,Ip,_)=>bif hf then(FX ()).bind fun(gx,_)=>some (.inr (gx,false,())) else some (.inl (lq,Ip,()))) fun q=>match q with
 |.inl (_,asB,_)=>((FY (asB,bV,())).bind fun(hH,_)=>some ((false,(hH,(aQ (hn.2.2.1+bV),()))),true,()))
 |.inr r=>some r))
def De:ss->Option gF:=fun(NZ,qw,_)=>(sC ((false,(NZ,(qw,()))),())).bind fun(a5,_,_)=>some (a5,())
def Aw:b8->Option gF:=fun(hY,_)=>(Dg (hY,())).bind fun(bo,a5,_)=>Option.bind (α:=(Int×Int×dO×Unit)⊕gF) (bif bo==2047 then some (.inr ((true,((false,([],())),((0:Int),()))),())) else bif bo==0 then some (.inl ((-1074:Int),a5,(false,((false,([],())),((0:Int),()))),())) else some (.inl (aQ (bo-1075),fF IntKind.u64 a5 4503599627370496,(false,((false,([],())),((0:Int),()))),()))) fun q=>match q with
 |.inl (ano,anO,hI,_)=>((Dj (aQ anO,())).bind fun(cV,_)=>Option.bind (α:=(dO×dB×Unit)) ((K5 (hY,())).bind fun(ev,_)=>bif ev then(x5 (cV,())).bind fun(eQ,_)=>some (hI,eQ,()) else some (hI,cV,())) fun(_,asA,_)=>(De (asA,ano,())).bind fun(iK,_)=>some (iK,()))
 |.inr r=>some r
def KY:Aa->Option (dO×dO×Bool×Unit):=fun(ba,b1,_)=>(sC (ba,())).bind fun(a5,bw,_)=>(sC (b1,())).bind fun(bV,cq,_)=>(bif bw==true then some (a5,bV,cq,()) else some (a5,bV,false,()))
def Lk:k3->Option fV:=fun(ba,b1,_)=>Option.bind (α:=Unit⊕fV) (bif (aS ba==0)==false then bif aS b1==0 then some (.inr ([],())) else some (.inl ()) else some (.inr ([],()))) fun q=>match q with
 |.inl _=>((fJ (aQ (aS ba+aS b1)) (aQ (aS ba+aS b1))).bind fun Iy=>(loop (σ:=jr) (ρ:=fV) (fun(xc,zc,_)=>bif decide (xc<aS ba) then(bf ba xc).bind fun q4=>(loop (σ:=t7) (ρ:=jr) (fun(An,nV,wZ,_)=>bif decide (nV<aS b1) then(bf b1 nV).bind fun q5=>rd wZ (aQ (xc+nV)) fun mv=>wr wZ (aQ (xc+nV)) (dt (ed IntKind.u64 (bc (bc (bc (bc q4*bc q5)+bc mv)+An)) 4294967295)) fun CE=>(d6 IntKind.u64 (bc (bc (bc (bc q4*bc q5)+bc mv)+An)) 32).bind fun sg=>some (.inl (sg,bN nV,CE,())) else some (.inr (An,wZ,()))) (0,0,zc,())).bind fun(ak7,avY,_)=>wr avY (aQ (xc+aS b1)) (dt ak7) fun aAF=>some (.inl (bN xc,aAF,())) else some (.inr (zc,()))) (0,List.replicate Iy (0:Int),())).bind fun(av0,_)=>(iS (av0,())).bind fun(awV,_)=>some (awV,()))
 |.inr r=>some r
def F8:mG->Option fC:=fun(ba,b1,_)=>(iS (ba.2.1,())).bind fun(a5,_)=>(iS (b1.2.1,())).bind fun(bw,_)=>(Lk (a5,bw,())).bind fun(bV,_)=>(nv ((!(ba.1==b1.1)),bV,())).bind fun(cq,_)=>some (cq,())
def KR:Aa->Option gF:=fun(ba,b1,_)=>(KY (ba,b1,())).bind fun(a5,bw,bV,_)=>(bif !bV then(FX ()).bind fun(cq,_)=>some (cq,()) else(F8 (a5.2.1,bw.2.1,())).bind fun(cV,_)=>(De (cV,aQ (a5.2.2.1+bw.2.2.1),())).bind fun(ev,_)=>some (ev,()))
def KS:gF->Option gF:=fun(hn,_)=>(sC (hn,())).bind fun(bo,a5,_)=>Option.bind (α:=Aa) (bif a5 then(x5 (bo.2.1,())).bind fun(bw,_)=>some ((bo.1,(bw,bo.2.2)),(false,((false,([],())),((0:Int),()))),()) else some (bo,(false,((false,([],())),((0:Int),()))),())) fun(FU,_,_)=>some (FU,())
def sB:ss->Option fC:=fun(ba,c5,_)=>(vN (ba,c5,())).bind fun(a5,_,_)=>some (a5,())
def KQ:b8->Option gP:=fun(cN,_)=>some ((cN !=cN),())
def KO:qp->Option b8:=fun(cN,tH,_)=>(KQ (cN,())).bind fun(a5,_)=>(KQ (tH,())).bind fun(bw,_)=>(bif a5 then bif bw then some (0,()) else some ((-1:Int),()) else bif bw then some (1,()) else bif decide (cN<tH) then some ((-1:Int),()) else bif decide (cN>tH) then some (1,()) else some (0,()))
def Az:k3->Option b8:=fun(ba,b1,_)=>(bif aS ba !=aS b1 then(Dd (aS ba,aS b1,())).bind fun(a5,_)=>some (a5,()) else((loop (σ:=b8) (ρ:=sr) (fun(dK,_)=>bif decide (dK>=0) then(bf ba dK).bind fun eH=>(bf b1 dK).bind fun ep=>bif eH !=ep then(bf ba dK).bind fun ga=>(bf b1 dK).bind fun hJ=>(KO (ga,hJ,())).bind fun(eQ,_)=>some (.inr (.inr (eQ,()))) else some (.inl (aQ (dK-1),())) else some (.inr (.inl ()))) (aQ (aS ba-1),())).bind fun q=>match q with
 |.inl _=>(some (0,()))
 |.inr r=>some r))
def Dm:k3->Option fV:=fun(ba,b1,_)=>(fJ (aS ba) (aS ba)).bind fun as9=>(loop (σ:=t7) (ρ:=fV) (fun(XB,zq,BW,_)=>bif decide (zq<aS ba) then Option.bind (α:=jr) ((bf ba zq).bind fun j7=>Option.bind (α:=jr) (bif decide (zq<aS b1) then(bf b1 zq).bind fun VT=>some (bc (bc (bc j7-XB)-bc VT),BW,()) else some (bc (bc j7-XB),BW,())) fun(aeW,IT,_)=>wr IT zq (dt (ed IntKind.u64 aeW 4294967295)) fun JU=>(d6 IntKind.u64 aeW 32).bind fun JM=>some (ed IntKind.u64 JM 1,JU,())) fun(akL,Ol,_)=>some (.inl (akL,bN zq,Ol,())) else some (.inr (BW,()))) (0,0,List.replicate as9 (0:Int),())).bind fun(rV,_)=>(iS (rV,())).bind fun(UM,_)=>some (UM,())
def Ay:mG->Option fC:=fun(ba,b1,_)=>(iS (ba.2.1,())).bind fun(a5,_)=>(iS (b1.2.1,())).bind fun(bw,_)=>(bif ba.1==b1.1 then(AA (a5,bw,())).bind fun(bV,_)=>(nv (ba.1,bV,())).bind fun(cq,_)=>some (cq,()) else(Az (a5,bw,())).bind fun(cV,_)=>bif decide (cV>=0) then(Dm (a5,bw,())).bind fun(ev,_)=>(nv (ba.1,ev,())).bind fun(eQ,_)=>some (eQ,()) else(Dm (bw,a5,())).bind fun(gx,_)=>(nv (b1.1,gx,())).bind fun(f8,_)=>some (f8,()))
def KX:(oS×Unit)->Option gF:=fun(fc,_)=>(loop (σ:=(Int×Int×dO×oS×Unit)) (ρ:=((Int×dO×oS×Unit)⊕gF)) (fun(qw,iZ,eZ,PR,_)=>bif decide (iZ<aS fc) then(bf fc iZ).bind fun ep=>(sC (ep,())).bind fun(cV,ev,_)=>bif !ev then(FX ()).bind fun(eQ,_)=>some (.inr (.inr (eQ,()))) else(di (PR.length+([cV]).length)).bind fun _=>some (.inl ((if cV.2.2.1<qw then cV.2.2.1 else qw),bN iZ,eZ,(PR++[cV]),())) else some (.inr (.inl (qw,eZ,PR,())))) (0,0,(false,((false,([],())),((0:Int),()))),[],())).bind fun q=>match q with
 |.inl (YI,jK,WS,_)=>((loop (σ:=(Int×dO×oS×dB×Unit)) (ρ:=(dO×dB×Unit)) (fun(xa,u2,WT,aeU,_)=>bif decide (xa<aS WS) then rd WT xa fun vf=>(sB (vf.2.1,aQ (vf.2.2.1-YI),())).bind fun(I3,_)=>(Ay (aeU,I3,())).bind fun(pq,_)=>some (.inl (bN xa,u2,WT,pq,())) else some (.inr (u2,aeU,()))) (0,jK,WS,(false,([],())),())).bind fun(_,ay0,_)=>(De (ay0,YI,())).bind fun(UK,_)=>some (UK,()))
 |.inr r=>some r
def x4:gF->Option b8:=fun(hn,_)=>(sC (hn,())).bind fun(bo,_,_)=>(sD (bo.2.1,())).bind fun(bw,_)=>some (bw,())
def Df:gF->Option gF:=fun(hn,_)=>(sC (hn,())).bind fun(bo,_,_)=>some (bo,())
def Lj:ro->Option ro:=fun(ba,X8,_)=>(fJ (aS ba) (aS ba)).bind fun as7=>(loop (σ:=t7) (ρ:=jr) (fun(ad6,Ny,uS,_)=>bif decide (Ny>=0) then(iq IntKind.u64 ad6 32).bind fun Fc=>(bf ba Ny).bind fun q3=>(ip IntKind.u64 (fF IntKind.u64 Fc (bc q3)) (bc X8)).bind fun j7=>wr uS Ny (dt j7) fun xz=>(ji (fF IntKind.u64 Fc (bc q3)) (bc X8)).bind fun se=>some (.inl (se,aQ (Ny-1),xz,())) else some (.inr (ad6,uS,()))) (0,aQ (aS ba-1),List.replicate as7 (0:Int),())).bind fun(axB,Ur,_)=>(iS (Ur,())).bind fun(I5,_)=>some (I5,dt axB,())
def AC:b8->Option b8:=fun(cN,_)=>(Dn (cN,())).bind fun(bo,_)=>some (aQ (32-bo),())
def Ga:((bx×Nat×Nat)×bx×Unit)->Option ro:=fun(m6,eo,_)=>(cH (m6.2.2-m6.2.1) (aS eo)).bind fun cm=>(cb m6.1 (m6.2.1+cm) fun e7=>some e7).bind fun eH=>(iq IntKind.u64 (bc eH) 32).bind fun ep=>(cH (m6.2.2-m6.2.1) (aQ (aS eo-1))).bind fun Eg=>(cb m6.1 (m6.2.1+Eg) fun vY=>some vY).bind fun dj=>(bf eo (aQ (aS eo-1))).bind fun gN=>(ip IntKind.u64 (fF IntKind.u64 ep (bc dj)) (bc gN)).bind fun hA=>(bf eo (aQ (aS eo-1))).bind fun dd=>(ji (fF IntKind.u64 ep (bc dj)) (bc dd)).bind fun h7=>(loop (σ:=(aCv×Int×Int×bx×Unit)) (ρ:=(aCv×Int×bx×Unit)) (fun(q2,tq,Cc,xl,_)=>Option.bind (α:=(aCv×bx×Unit)⊕((aCv×Int×Int×bx×Unit)⊕(aCv×Int×bx×Unit))) (bif decide (tq>4294967295)==false then(bf eo (aQ (aS eo-2))).bind fun tF=>(iq IntKind.u64 Cc 32).bind fun vf=>(cH (q2.2-q2.1) (aQ (aS eo-2))).bind fun S7=>(cb xl (q2.1+S7) fun GP=>some GP).bind fun j7=>bif decide (bc (tq*bc tF)>fF IntKind.u64 vf (bc j7)) then
 some (.inl (q2,xl,())) else some (.inr (.inr (q2,tq,xl,()))) else some (.inl (q2,xl,()))) fun q=>match q with
 |.inl (JB,JC,_)=>((bf eo (aQ (aS eo-1))).bind fun zF=>bif decide (bc (Cc+bc zF)>4294967295) then some (.inr (JB,bc (tq-1),JC,())) else some (.inl (JB,bc (tq-1),bc (Cc+bc zF),JC,())))
 |.inr r=>some r) (m6.2,hA,h7,m6.1,())).bind fun(azv,zg,Pa,_)=>(loop (σ:=(aCv×Int×Int×Int×bx×Unit)) (ρ:=(aCv×Int×Int×bx×Unit)) (fun(mr,vH,Ak,qZ,xn,_)=>bif decide (qZ<aS eo) then(bf eo qZ).bind fun mv=>(d6 IntKind.u64 (bc (bc (zg*bc mv)+vH)) 32).bind fun Cx=>(cH (mr.2-mr.1) qZ).bind fun Tb=>(cb xn (mr.1+Tb) fun GR=>some GR).bind fun sg=>(cH (mr.2-mr.1) qZ).bind fun HW=>(cb xn (mr.1+HW) fun _=>some (xn.set (mr.1+HW) (dt (ed IntKind.u64 (bc (bc (bc sg-ed IntKind.u64 (bc (bc (zg*bc mv)+vH)) 4294967295)-Ak)) 4294967295)))).bind fun V5=>(d6 IntKind.u64 (bc (bc (bc sg-ed IntKind.u64 (bc (bc (zg*bc mv)+vH)) 4294967295)-Ak)) 32).bind fun VY=>some (.inl (mr,Cx,ed IntKind.u64 VY 1,bN qZ,V5,())) else some (.inr (mr,vH,Ak,xn,()))) (azv,0,0,0,Pa,())).bind fun(sa,XI,XD,VE,_)=>(cH (sa.2-sa.1) (aS eo)).bind fun Tc=>(cb VE (sa.1+Tc) fun QU=>some QU).bind fun Pp=>
 (cH (sa.2-sa.1) (aS eo)).bind fun aa7=>(cb VE (sa.1+aa7) fun _=>some (VE.set (sa.1+aa7) (dt (ed IntKind.u64 (bc (bc (bc Pp-XI)-XD)) 4294967295)))).bind fun JW=>(d6 IntKind.u64 (bc (bc (bc Pp-XI)-XD)) 32).bind fun aAn=>(bif ed IntKind.u64 aAn 1==0 then bif Nat.beq sa.1 m6.2.1&&(Nat.beq sa.2 m6.2.2&&(Nat.beq JW.length ((m6.1).length)&&Nat.blt sa.1 sa.2)) then some (JW,dt zg,()) else none else(loop (σ:=(aCv×Int×Int×bx×Unit)) (ρ:=(aCv×Int×bx×Unit)) (fun(ms,Ao,ts,xo,_)=>bif decide (ts<aS eo) then(bf eo ts).bind fun JN=>(cH (ms.2-ms.1) ts).bind fun Td=>(cb xo (ms.1+Td) fun QV=>some QV).bind fun JO=>(cH (ms.2-ms.1) ts).bind fun HX=>(cb xo (ms.1+HX) fun _=>some (xo.set (ms.1+HX) (dt (ed IntKind.u64 (bc (bc (bc JO+bc JN)+Ao)) 4294967295)))).bind fun V6=>(d6 IntKind.u64 (bc (bc (bc JO+bc JN)+Ao)) 32).bind fun VZ=>some (.inl (ms,VZ,bN ts,V6,())) else some (.inr (ms,Ao,xo,()))) (sa,0,0,JW,())).bind fun(tA,ak8,VF,_)=>
 (cH (tA.2-tA.1) (aS eo)).bind fun aq5=>(cb VF (tA.1+aq5) fun amm=>some amm).bind fun aAp=>(cH (tA.2-tA.1) (aS eo)).bind fun aa9=>(cb VF (tA.1+aa9) fun _=>some (VF.set (tA.1+aa9) (dt (aAp+dt ak8)))).bind fun afL=>bif Nat.beq tA.1 m6.2.1&&(Nat.beq tA.2 m6.2.2&&(Nat.beq afL.length ((m6.1).length)&&Nat.blt tA.1 tA.2)) then some (afL,dt (bc (zg-1)),()) else none)
def Gb:k3->Option k3:=fun(ba,b1,_)=>(Az (ba,b1,())).bind fun(aw0,_)=>(bif decide (aw0<0) then(AD (ba,())).bind fun(aw1,_)=>some ([],aw1,()) else bif aS b1==1 then(bf b1 0).bind fun aAo=>(Lj (ba,aAo,())).bind fun(aw2,aw3,_)=>(iS ([aw3],())).bind fun(aw4,_)=>some (aw2,aw4,()) else(bf b1 (aQ (aS b1-1))).bind fun aAq=>(AC (aAq,())).bind fun(UP,_)=>(AB (b1,UP,())).bind fun(I7,_)=>(fJ (bN (aS ba)) (bN (aS ba))).bind fun Ez=>(AB (ba,UP,())).bind fun(UQ,_)=>(fJ (aQ (aS (nu (List.replicate Ez (0:Int)) UQ 0 (List.replicate Ez (0:Int)).length)-aS I7)) (aQ (aS (nu (List.replicate Ez (0:Int)) UQ 0 (List.replicate Ez (0:Int)).length)-aS I7))).bind fun ab7=>(loop (σ:=(Int×bx×bx×Unit)) (ρ:=k3) (fun(s8,IZ,xp,_)=>bif decide (s8>=0) then((jh s8).bind fun H7=>(jh (bN (aQ (s8+aS I7)))).bind fun H8=>(jG H7 H8 xp.length).bind fun _=>(IV xp.length).map fun _=>(H7,H8)).bind fun w5=>
 bif Nat.blt w5.1 w5.2 then(Ga ((xp,w5.1,w5.2),I7,())).bind fun(TC,UR,_)=>wr IZ s8 UR fun V8=>some (.inl (aQ (s8-1),V8,TC,())) else none else some (.inr (IZ,xp,()))) (aQ (aS (List.replicate ab7 (0:Int))-1),List.replicate ab7 (0:Int),nu (List.replicate Ez (0:Int)) UQ 0 (List.replicate Ez (0:Int)).length,())).bind fun(awC,afj,_)=>((some (0)).bind fun abl=>(jh (aS I7)).bind fun abm=>(jG abl abm afj.length).map fun _=>(abl,abm)).bind fun adB=>(iS (((afj.take adB.2).drop adB.1),())).bind fun(aw6,_)=>(Dk (aw6,UP,())).bind fun(aw7,_,_)=>(iS (awC,())).bind fun(aw8,_)=>some (aw8,aw7,()))
def Li:fV->Option fV:=fun(ba,_)=>(bif aS ba==0 then some ([],()) else(Dl (ba,())).bind fun(bo,_)=>(ip IntKind.i64 (bN bo) 2).bind fun gO=>(AB ([1],gO,())).bind fun(bw,_)=>(loop (σ:=fV) (ρ:=fV) (fun(zD,_)=>(Gb (ba,zD,())).bind fun(cq,_,_)=>(AA (zD,cq,())).bind fun(ev,_)=>(Dk (ev,1,())).bind fun(eQ,_,_)=>(Az (eQ,zD,())).bind fun(f8,_)=>bif decide (f8>=0) then some (.inr (zD,())) else some (.inl (eQ,()))) (bw,())).bind some)
def Lg:fC->Option ss:=fun(ba,_)=>(sD (ba,())).bind fun(bo,_)=>(bif decide (bo<0) then some ((false,(([]:bx),())),11,()) else(iS (ba.2.1,())).bind fun(a5,_)=>(Li (a5,())).bind fun(bw,_)=>(nv (false,bw,())).bind fun(bV,_)=>some (bV,0,()))
def F7:mG->Option b8:=fun(ba,b1,_)=>(sD (ba,())).bind fun(a5,_)=>(sD (b1,())).bind fun(bw,_)=>(bif decide (a5<bw) then some ((-1:Int),()) else bif decide (a5>bw) then some (1,()) else(iS (ba.2.1,())).bind fun(bV,_)=>(iS (b1.2.1,())).bind fun(cq,_)=>(Az (bV,cq,())).bind fun(cV,_)=>some (aQ (a5*cV),()))
def KW:(dO×Int×Unit)->Option (xS×Unit):=fun(hn,EM,_)=>(vM (hn.2.1,())).bind fun(a5,_)=>Option.bind (α:=(Int×xS×Unit)) ((ji (aQ (hn.2.2.1-(if(aQ (aQ (2*aQ (EM+3))-a5))>0 then aQ (aQ (2*aQ (EM+3))-a5) else 0))) 2).bind fun e0=>bif e0 !=0 then some (bN (if(aQ (aQ (2*aQ (EM+3))-a5))>0 then aQ (aQ (2*aQ (EM+3))-a5) else 0),(false,((false,([],())),((0:Int),(false,())))),()) else some ((if(aQ (aQ (2*aQ (EM+3))-a5))>0 then aQ (aQ (2*aQ (EM+3))-a5) else 0),(false,((false,([],())),((0:Int),(false,())))),())) fun(y3,_,_)=>(sB (hn.2.1,y3,())).bind fun(cV,_)=>(Lg (cV,())).bind fun(ev,_,_)=>(ip IntKind.i64 (aQ (hn.2.2.1-y3)) 2).bind fun gN=>(F8 (ev,ev,())).bind fun(f8,_)=>(F7 (f8,cV,())).bind fun(iK,_)=>some ((false,(ev,(gN,((iK !=0),())))),())
def KU:(xS×Unit)->Option b8:=fun(cN,_)=>(vM (cN.2.1,())).bind fun(bo,_)=>some (aQ (aQ (cN.2.2.1+bo)-1),())
def Lh:mG->Option fC:=fun(ba,b1,_)=>(Ay (ba,((!b1.1),b1.2),())).bind fun(a5,_)=>some (a5,())
def FW:(xS×Int×Unit)->Option (dB×Int×Bool×Unit):=fun(cN,yK,_)=>(vM (cN.2.1,())).bind fun(a5,_)=>(bif decide (yK>a5) then some ((false,(([]:bx),())),(-1:Int),false,()) else(FY (cN.2.1,yK,())).bind fun(bw,_)=>(sB (bw,yK,())).bind fun(bV,_)=>(Lh (cN.2.1,bV,())).bind fun(cq,_)=>(Dj (1,())).bind fun(cV,_)=>(sB (cV,aQ (yK-1),())).bind fun(ev,_)=>(F7 (cq,ev,())).bind fun(eQ,_)=>Option.bind (α:=(Int×dB×dB×Unit)) (bif (eQ==0)==true then bif cN.2.2.2.1 then some (1,bw,cq,()) else some (eQ,bw,cq,()) else some (eQ,bw,cq,())) fun(XS,qR,axA,_)=>(sD (axA,())).bind fun(hH,_)=>bif (hH==0)==true then some (qR,XS,(!cN.2.2.2.1),()) else some (qR,XS,false,()))
def KV:(xS×Int×Int×Unit)->Option fC:=fun(cN,UH,BP,_)=>Option.bind (α:=(Int×Bool×dB×dB×Unit)) (bif decide (UH<=cN.2.2.1) then(sB (cN.2.1,aQ (cN.2.2.1-UH),())).bind fun(bw,_)=>some ((-1:Int),true,(false,([],())),bw,()) else(FW (cN,aQ (UH-cN.2.2.1),())).bind fun(bV,cq,cV,_)=>some (cq,cV,(false,([],())),bV,())) fun(XT,ann,qX,qR,_)=>Option.bind (α:=(Bool×dB×dB×Unit)) (bif ann then some (false,qX,qR,()) else bif BP==1 then some (cN.1,qX,qR,()) else bif BP==2 then some ((!cN.1),qX,qR,()) else bif BP==3 then some (false,qX,qR,()) else bif decide (XT>0)==false then bif (XT==0)==true then(sD (qR,())).bind fun(iK,_)=>bif (iK !=0)==true then(F9 (qR,())).bind fun(hH,_)=>some ((hH==0),qX,qR,()) else some (false,qX,qR,()) else some (false,qX,qR,()) else some (true,qX,qR,())) fun(akq,qY,ab8,_)=>Option.bind (α:=mG) (bif akq then(Dj (1,())).bind fun(rZ,_)=>(Ay (ab8,rZ,())).bind fun(w7,_)=>some (qY,w7,()) else some (qY,ab8,())) fun(xb,ab9,_)=>Option.bind (α:=mG) (bif cN.1 then(x5 (ab9,())).bind fun(pq,_)=>some (xb,pq,()) else some (xb,ab9,())) fun(_,TW,_)=>some (TW,())
def Di:fC->Option fC:=fun(ba,_)=>(AD (ba.2.1,())).bind fun(bo,_)=>(nv (false,bo,())).bind fun(a5,_)=>some (a5,())
def Le:fC->Option aCp:=fun(ba,_)=>(iS (ba.2.1,())).bind fun(bo,_)=>(bif decide (aS bo>2) then some (0,false,()) else((loop (σ:=qp) (ρ:=b8) (fun(zy,eZ,_)=>bif decide (eZ<aS bo) then(bf bo eZ).bind fun eH=>(iq IntKind.u64 (bc eH) (aQ (32*eZ))).bind fun ep=>some (.inl (fF IntKind.u64 zy ep,bN eZ,())) else some (.inr (zy,()))) (0,0,())).bind fun(E8,_)=>Option.bind (α:=Unit⊕aCp) (Option.bind (α:=gP) (bif ba.1==true then bif decide (E8>0)==true then some (decide (E8<=9223372036854775808),()) else some (false,()) else some (false,())) fun(lq,_)=>bif lq then some (.inr (aQ (aQ (0-aQ (bc (E8-1)))-1),true,())) else Option.bind (α:=gP) (bif decide (E8<9223372036854775808)==true then bif (!ba.1)==false then some ((E8==0),()) else some (true,()) else some (false,())) fun(jj,_)=>bif jj then some (.inr (aQ E8,true,())) else some (.inl ())) fun q=>match q with
 |.inl _=>(some (0,false,()))
 |.inr r=>some r))
def Ax:aCp->Option b8:=fun(hY,atk,_)=>(bif atk then some (fF IntKind.u64 hY 9223372036854775808,()) else some (hY,()))
def K6:aCr->Option b8:=fun(iX,lN,_)=>Option.bind (α:=Unit⊕b8) (Option.bind (α:=gP) (bif (lN==3)==false then bif (lN==1)==true then bif (!iX)==false then bif (lN==2)==true then some (iX,()) else some (false,()) else some (true,()) else bif (lN==2)==true then some (iX,()) else some (false,()) else some (true,())) fun(iZ,_)=>bif iZ then(Ax (9218868437227405311,iX,())).bind fun(bw,_)=>some (.inr (bw,())) else some (.inl ())) fun q=>match q with
 |.inl _=>((Ax (9218868437227405312,iX,())).bind fun(bV,_)=>some (bV,()))
 |.inr r=>some r
def FZ:(xS×Int×Unit)->Option b8:=fun(cN,lN,_)=>(KU (cN,())).bind fun(a5,_)=>(KV (cN,(if(-1074:Int)>aQ (a5-52) then(-1074:Int) else aQ (a5-52)),lN,())).bind fun(bw,_)=>(Di (bw,())).bind fun(bV,_)=>(Le (bV,())).bind fun(cq,_,_)=>Option.bind (α:=qp) (bif bc cq==9007199254740992 then some (bN (if(-1074:Int)>aQ (a5-52) then(-1074:Int) else aQ (a5-52)),4503599627370496,()) else some ((if(-1074:Int)>aQ (a5-52) then(-1074:Int) else aQ (a5-52)),bc cq,())) fun(I1,Ip,_)=>(bif decide (Ip<4503599627370496) then(Ax (Ip,cN.1,())).bind fun(gx,_)=>some (gx,()) else bif decide (aQ (I1+1075)>=2047) then(K6 (cN.1,lN,())).bind fun(f8,_)=>some (f8,()) else(iq IntKind.u64 (bc (aQ (I1+1075))) 52).bind fun dd=>(Ax (fF IntKind.u64 dd (bc (Ip-4503599627370496)),cN.1,())).bind fun(hH,_)=>some (hH,()))
def K4:(dO×Int×Unit)->Option b8:=fun(hn,lN,_)=>(Df (hn,())).bind fun(a5,_)=>Option.bind (α:=gF⊕b8) (Option.bind (α:=(Bool×dO×Unit)) (bif a5.1==false then(x4 (a5,())).bind fun(bw,_)=>some (decide (bw<0),a5,()) else some (true,a5,())) fun(gK,X9,_)=>bif gK then some (.inr (9221120237041090560,())) else(x4 (X9,())).bind fun(cV,_)=>bif cV==0 then some (.inr (0,())) else some (.inl (X9,()))) fun q=>match q with
 |.inl (alM,_)=>((KW (alM,56,())).bind fun(eQ,_)=>(FZ (eQ,lN,())).bind fun(gx,_)=>some (gx,()))
 |.inr r=>some r
def K2:b8->Option b8:=fun(hY,_)=>(Dg (hY,())).bind fun(bo,a5,_)=>Option.bind (α:=gP) (bif (bo==2047)==true then some ((a5 !=0),()) else some (false,())) fun(eZ,_)=>(bif eZ then some (3,()) else bif bo==2047 then some (2,()) else bif (bo==0)==true then bif a5==0 then some (0,()) else some (1,()) else some (1,()))
def Ld:mG->Option (dB×dB×Int×Unit):=fun(ba,b1,_)=>(iS (b1.2.1,())).bind fun(a5,_)=>(bif aS a5==0 then some ((false,(([]:bx),())),(false,(([]:bx),())),8,()) else(iS (ba.2.1,())).bind fun(bw,_)=>(Gb (bw,a5,())).bind fun(bV,cq,_)=>Option.bind (α:=(bx×bx×dB×dB×Unit)) (Option.bind (α:=(Bool×dB×dB×Unit)) (bif ba.1==true then some (decide (aS cq>0),(false,([],())),(false,([],())),()) else some (false,(false,([],())),(false,([],())),())) fun(hf,I1,adR,_)=>bif hf then(AA (bV,[1],())).bind fun(gx,_)=>(Dm (a5,cq,())).bind fun(f8,_)=>some (gx,f8,I1,adR,()) else some (bV,cq,I1,adR,())) fun(asi,atg,_,_,_)=>(nv ((!(ba.1==b1.1)),asi,())).bind fun(qU,_)=>(nv (false,atg,())).bind fun(rZ,_)=>some (qU,rZ,0,()))
def KT:(dO×dO×Int×Unit)->Option (xS×Unit):=fun(ba,b1,Ou,_)=>(vM (b1.2.1,())).bind fun(bw,_)=>(vM (ba.2.1,())).bind fun(bV,_)=>(Di (ba.2.1,())).bind fun(cq,_)=>(sB (cq,(if(aQ (aQ (aQ (Ou+3)+bw)-bV))>0 then aQ (aQ (aQ (Ou+3)+bw)-bV) else 0),())).bind fun(cV,_)=>(Di (b1.2.1,())).bind fun(ev,_)=>(Ld (cV,ev,())).bind fun(eQ,gx,_,_)=>(sD (gx,())).bind fun(iK,_)=>some (((!(ba.2.1.1==b1.2.1.1)),(eQ,(aQ (aQ (ba.2.2.1-(if(aQ (aQ (aQ (Ou+3)+bw)-bV))>0 then aQ (aQ (aQ (Ou+3)+bw)-bV) else 0))-b1.2.2.1),((iK !=0),())))),())
def K3:(dO×dO×Int×Unit)->Option b8:=fun(ba,b1,BP,_)=>(Df (ba,())).bind fun(bw,_)=>(Df (b1,())).bind fun(bV,_)=>Option.bind (α:=Aa⊕b8) (Option.bind (α:=(Bool×dO×dO×Unit)) (bif bw.1==false then bif bV.1==false then(x4 (bV,())).bind fun(cq,_)=>some ((cq==0),bw,bV,()) else some (true,bw,bV,()) else some (true,bw,bV,())) fun(hf,Km,aku,_)=>bif hf then some (.inr (9221120237041090560,())) else(x4 (Km,())).bind fun(gx,_)=>bif gx==0 then some (.inr (0,())) else some (.inl (Km,aku,()))) fun q=>match q with
 |.inl (ajX,aks,_)=>((KT (ajX,aks,56,())).bind fun(hH,_)=>(FZ (hH,BP,())).bind fun(jJ,_)=>some (jJ,()))
 |.inr r=>some r
def AH:b8->Option gP:=fun(hY,_)=>(d6 IntKind.u64 hY 52).bind fun dU=>some ((ed IntKind.u64 dU 2047 !=2047),())
def LU:b8->Option gP:=fun(hY,_)=>some ((ed IntKind.u64 hY 9223372036854775808 !=0),())
def x8:b8->Option gF:=fun(hY,_)=>(AH (hY,())).bind fun(bo,_)=>(bif !bo then(AF ()).bind fun(a5,_)=>some (a5,()) else(d6 IntKind.u64 hY 52).bind fun e0=>Option.bind (α:=(Int×Int×dO×Unit)) (bif decide (aQ (ed IntKind.u64 e0 2047)>0) then some (fF IntKind.u64 (ed IntKind.u64 hY 4503599627370495) 4503599627370496,aQ (aQ (ed IntKind.u64 e0 2047)-1075),(false,((false,([],())),((0:Int),()))),()) else some (ed IntKind.u64 hY 4503599627370495,(-1074:Int),(false,((false,([],())),((0:Int),()))),())) fun(ad7,amx,_,_)=>(LU (hY,())).bind fun(ev,_)=>(d6 IntKind.u64 ad7 32).bind fun dj=>(sE ((ev,([dt ad7,dt dj],())),amx,())).bind fun(gx,_)=>some (gx,()))
def LM:gF->Option gF:=fun(hn,_)=>(qv (hn,())).bind fun(bo,_)=>(bif bo.1 then some (bo,()) else(vO (bo.2.1,())).bind fun(a5,_)=>(sE (a5,bo.2.2.1,())).bind fun(bw,_)=>some (bw,()))
def Gw:(oS×Unit)->Option gF:=fun(fc,_)=>(loop (σ:=(Int×Int×dO×dB×Unit)) (ρ:=((Int×dO×dB×Unit)⊕gF)) (fun(Dy,eL,eZ,Jx,_)=>bif decide (eL<aS fc) then(Option.bind (α:=(Int×dO×dB×Unit)⊕((Int×Int×dO×dB×Unit)⊕((Int×dO×dB×Unit)⊕gF))) ((bf fc eL).bind fun ep=>(qv (ep,())).bind fun(cV,_)=>bif cV.1 then(AF ()).bind fun(ev,_)=>some (.inr (.inr (.inr (ev,())))) else(nw (cV.2.1,())).bind fun(eQ,_)=>bif eQ==0 then some (.inl (Dy,eZ,Jx,())) else(nw (Jx,())).bind fun(gx,_)=>bif gx==0 then some (.inl (cV.2.2.1,eZ,cV.2.1,())) else bif decide (cV.2.2.1>=Dy) then(oX (cV.2.1,aQ (cV.2.2.1-Dy),())).bind fun(f8,_)=>(uf (Jx,f8,())).bind fun(iK,_)=>some (.inl (Dy,eZ,iK,())) else(oX (Jx,aQ (Dy-cV.2.2.1),())).bind fun(hH,_)=>(uf (hH,cV.2.1,())).bind fun(jJ,_)=>some (.inl (cV.2.2.1,eZ,jJ,()))) fun q=>match q with
 |.inl (amt,Cf,azi,_)=>(some (.inl (amt,bN eL,Cf,azi,())))
 |.inr r=>some r) else some (.inr (.inl (Dy,eZ,Jx,())))) (0,0,(false,((false,([],())),((0:Int),()))),(false,(([]:bx),())),())).bind fun q=>match q with
 |.inl (amu,_,azj,_)=>((sE (azj,amu,())).bind fun(pq,_)=>some (pq,()))
 |.inr r=>some r
def LL:k3->Option fV:=fun(ba,b1,_)=>(fJ (aQ (aS ba+aS b1)) (aQ (aS ba+aS b1))).bind fun po=>(loop (σ:=jr) (ρ:=fV) (fun(dK,rW,_)=>bif decide (dK<aS ba) then(loop (σ:=t7) (ρ:=jr) (fun(Am,jF,jI,_)=>bif decide (jF<aS b1) then(bf ba dK).bind fun dj=>(bf b1 jF).bind fun gN=>rd jI (aQ (dK+jF)) fun h7=>wr jI (aQ (dK+jF)) (dt (bc (bc (Am+bc (bc dj*bc gN))+bc h7))) fun CA=>(d6 IntKind.u64 (bc (bc (Am+bc (bc dj*bc gN))+bc h7)) 32).bind fun m9=>some (.inl (m9,bN jF,CA,())) else some (.inr (Am,jI,()))) (0,0,rW,())).bind fun(akY,uS,_)=>wr uS (aQ (dK+aS b1)) (dt akY) fun z22=>some (.inl (bN dK,z22,())) else some (.inr (rW,()))) (0,List.replicate po (0:Int),())).bind fun(Uq,_)=>some (Uq,())
def Gp:mG->Option fC:=fun(ba,b1,_)=>(oY (ba.2.1,())).bind fun(a5,_)=>(oY (b1.2.1,())).bind fun(bw,_)=>(LL (a5,bw,())).bind fun(bV,_)=>(oe ((!(ba.1==b1.1)),bV,())).bind fun(cq,_)=>some (cq,())
def LO:Aa->Option gF:=fun(ba,b1,_)=>(qv (ba,())).bind fun(a5,_)=>(qv (b1,())).bind fun(bw,_)=>Option.bind (α:=(dO×dO×dO×Unit)⊕gF) (Option.bind (α:=(Bool×dO×dO×dO×Unit)) (bif a5.1==false then some (bw.1,a5,bw,(false,((false,([],())),((0:Int),()))),()) else some (true,a5,bw,(false,((false,([],())),((0:Int),()))),())) fun(gK,ajY,akt,lq,_)=>bif gK then(AF ()).bind fun(eQ,_)=>some (.inr (eQ,())) else some (.inl (ajY,akt,lq,()))) fun q=>match q with
 |.inl (WH,Xk,_,_)=>((Gp (WH.2.1,Xk.2.1,())).bind fun(hH,_)=>(sE (hH,aQ (WH.2.2.1+Xk.2.2.1),())).bind fun(jJ,_)=>some (jJ,()))
 |.inr r=>some r
def Gv:gF->Option gF:=fun(hn,_)=>(qv (hn,())).bind fun(bo,_)=>(bif bo.1 then some (bo,()) else(Gq (bo.2.1,())).bind fun(a5,_)=>(sE (a5,bo.2.2.1,())).bind fun(bw,_)=>some (bw,()))
def Gt:(bx×bx×Int×Int×Unit)->Option (bx×Bool×Unit):=fun(m6,eo,hP,aoe,_)=>(fJ (bN (aS eo)) (bN (aS eo))).bind fun Iz=>(loop (σ:=(Int×Int×Int×bx×bx×Unit)) (ρ:=(Int×bx×bx×Unit)) (fun(P6,XJ,ha,VG,za,_)=>bif decide (ha<=aS eo) then Option.bind (α:=(Int×Int×bx×bx×Unit)) (Option.bind (α:=(Int×bx×bx×Unit)) (bif decide (ha<aS eo) then(bf eo ha).bind fun hA=>some (bc (XJ+bc (aoe*bc hA)),VG,za,()) else some (XJ,VG,za,())) fun(Qc,afh,p6,_)=>rd afh (aQ (ha+hP)) fun m9=>(d6 IntKind.u64 Qc 32).bind fun tF=>wr p6 ha (dt (bc (bc (bc m9-P6)-ed IntKind.u64 Qc 4294967295))) fun JS=>(d6 IntKind.u64 (bc (bc (bc m9-P6)-ed IntKind.u64 Qc 4294967295)) 63).bind fun j7=>some (j7,tF,afh,JS,())) fun(akJ,ak6,azu,zc,_)=>some (.inl (akJ,ak6,bN ha,azu,zc,())) else some (.inr (P6,VG,za,()))) (0,0,0,m6,List.replicate Iz (0:Int),())).bind fun(akK,Pa,Ok,_)=>
 (bif akK !=0 then some (Pa,false,()) else(loop (σ:=(Int×bx×bx×Unit)) (ρ:=fV) (fun(Nz,afi,rV,_)=>bif decide (Nz<=aS eo) then rd rV Nz fun Cx=>wr afi (aQ (Nz+hP)) Cx fun V3=>some (.inl (bN Nz,V3,rV,())) else some (.inr (afi,()))) (0,Pa,Ok,())).bind fun(azw,_)=>some (azw,true,()))
def LK:k3->Option k3:=fun(ba,b1,_)=>(Gr (ba,b1,())).bind fun(awI,_)=>(bif decide (awI<0) then some ([],ba,()) else(bf b1 (aQ (aS b1-1))).bind fun aAe=>(AC (aAe,())).bind fun(UI,_)=>(Dr (ba,UI,())).bind fun(OD,_)=>(Dr (b1,UI,())).bind fun(OE,_)=>((some (0)).bind fun abg=>(jh (aS b1)).bind fun abh=>(jG abg abh OE.length).bind fun _=>(IV OE.length).map fun _=>(abg,abh)).bind fun Ox=>Option.bind (α:=k3) (bif aS OD==aS ba then(di (OD.length+([0]).length)).bind fun _=>some (((OE.take Ox.2).drop Ox.1),(OD++[0]),()) else some (((OE.take Ox.2).drop Ox.1),OD,())) fun(afq,azs,_)=>(fJ (bN (aQ (aS ba-aS b1))) (bN (aQ (aS ba-aS b1)))).bind fun as8=>(loop (σ:=(Int×bx×bx×Unit)) (ρ:=k3) (fun(qK,xm,IX,_)=>bif decide (qK>=0) then rd xm (aQ (qK+aS b1)) fun VP=>(iq IntKind.u64 (bc VP) 32).bind fun VQ=>rd xm (aQ (aQ (qK+aS b1)-1)) fun VR=>
 (bf afq (aQ (aS b1-1))).bind fun VS=>(ip IntKind.u64 (fF IntKind.u64 VQ (bc VR)) (bc VS)).bind fun JL=>(loop (σ:=(Int×bx×bx×Unit)) (ρ:=(Int×bx×bx×Unit)) (fun(A9,VC,IY,_)=>(Gt (VC,afq,qK,A9,())).bind fun(Il,UJ,_)=>bif !UJ then some (.inl (bc (A9-1),Il,IY,())) else some (.inr (A9,Il,IY,()))) ((if 4294967295<JL then 4294967295 else JL),xm,IX,())).bind fun(Rz,VD,UG,_)=>wr UG qK (dt Rz) fun V1=>some (.inl (aQ (qK-1),VD,V1,())) else some (.inr (xm,IX,()))) (aQ (aS ba-aS b1),azs,List.replicate as8 (0:Int),())).bind fun(azt,awA,_)=>(oY (azt,())).bind fun(awJ,_)=>(Ds (awJ,UI,())).bind fun(awK,_,_)=>(oY (awA,())).bind fun(awL,_)=>(oY (awK,())).bind fun(awM,_)=>some (awL,awM,()))
def Gm:mG->Option mG:=fun(ba,b1,_)=>(ug (ba,())).bind fun(a5,_)=>(ug (b1,())).bind fun(bw,_)=>(LK (a5.2.1,bw.2.1,())).bind fun(bV,cq,_)=>(oe ((!(a5.1==bw.1)),bV,())).bind fun(cV,_)=>(oe (a5.1,cq,())).bind fun(ev,_)=>Option.bind (α:=(dB×dB×dB×dB×Unit)) ((nw (ev,())).bind fun(eQ,_)=>bif decide (eQ<0) then(vO (bw,())).bind fun(gx,_)=>(uf (ev,gx,())).bind fun(f8,_)=>bif bw.1 then(vQ (1,())).bind fun(iK,_)=>(uf (cV,iK,())).bind fun(hH,_)=>some ((false,([],())),(false,([],())),hH,f8,()) else(vQ (1,())).bind fun(jJ,_)=>(Dq (cV,jJ,())).bind fun(qT,_)=>some ((false,([],())),(false,([],())),qT,f8,()) else some ((false,([],())),(false,([],())),cV,ev,())) fun(_,_,EN,axi,_)=>some (EN,axi,())
def Gl:mG->Option b8:=fun(ba,b1,_)=>(Dq (ba,b1,())).bind fun(a5,_)=>(nw (a5,())).bind fun(bw,_)=>some (bw,())
def LI:fC->Option fC:=fun(ba,_)=>(nw (ba,())).bind fun(bo,_)=>(bif bo==0 then some ((false,(([]:bx),())),()) else(vQ (1,())).bind fun(a5,_)=>(vP (ba,())).bind fun(bw,_)=>(ip IntKind.i64 (bN bw) 2).bind fun eH=>(oX (a5,eH,())).bind fun(cq,_)=>(loop (σ:=mG) (ρ:=fC) (fun(hf,Po,_)=>(Gm (ba,Po,())).bind fun(eQ,_,_)=>(uf (Po,eQ,())).bind fun(f8,_)=>(oX (f8,(-1:Int),())).bind fun(iK,_)=>(Gl (iK,Po,())).bind fun(hH,_)=>bif decide (hH>=0) then some (.inr (Po,())) else some (.inl (hf,iK,()))) ((false,([],())),cq,())).bind some)
def LQ:(dB×Int×Int×Unit)->Option (dB×Int×Bool×Unit):=fun(ba,qw,j2,_)=>(vP (ba,())).bind fun(bw,_)=>Option.bind (α:=(Int×dB×Unit)) ((ji (aQ (qw-(if 0>aQ (aQ (aQ (2*j2)+6)-bw) then 0 else aQ (aQ (aQ (2*j2)+6)-bw)))) 2).bind fun eH=>bif eH !=0 then some (bN (if 0>aQ (aQ (aQ (2*j2)+6)-bw) then 0 else aQ (aQ (aQ (2*j2)+6)-bw)),(false,([],())),()) else some ((if 0>aQ (aQ (aQ (2*j2)+6)-bw) then 0 else aQ (aQ (aQ (2*j2)+6)-bw)),(false,([],())),())) fun(qL,_,_)=>(oX (ba,qL,())).bind fun(ev,_)=>(LI (ev,())).bind fun(eQ,_)=>(ip IntKind.i64 (aQ (qw-qL)) 2).bind fun gN=>(Gp (eQ,eQ,())).bind fun(f8,_)=>(Gl (f8,ev,())).bind fun(iK,_)=>some (eQ,gN,(iK !=0),())
def LW:(dO×Int×Unit)->Option b8:=fun(hn,lN,_)=>(qv (hn,())).bind fun(a5,_)=>Option.bind (α:=gF⊕b8) (bif a5.1==false then(nw (a5.2.1,())).bind fun(bw,_)=>bif decide (bw<0) then some (.inr (9221120237041090560,())) else some (.inl (a5,())) else some (.inr (9221120237041090560,()))) fun q=>match q with
 |.inl (FU,_)=>((nw (FU.2.1,())).bind fun(cq,_)=>bif cq==0 then some (0,()) else(LQ (FU.2.1,FU.2.2.1,60,())).bind fun(cV,ev,eQ,_)=>(Du (false,cV,ev,eQ,lN,())).bind fun(gx,_)=>some (gx,()))
 |.inr r=>some r
def LR:gF->Option b8:=fun(hn,_)=>(qv (hn,())).bind fun(bo,_)=>(bif bo.1 then some (0,()) else(nw (bo.2.1,())).bind fun(a5,_)=>some (a5,()))
def LP:(dB×dB×Int×Unit)->Option (dB×Int×Bool×Unit):=fun(ba,b1,j2,_)=>(vP (b1,())).bind fun(bw,_)=>(vP (ba,())).bind fun(bV,_)=>(oX (ba,(if 0>aQ (aQ (aQ (j2+2)+bw)-bV) then 0 else aQ (aQ (aQ (j2+2)+bw)-bV)),())).bind fun(cq,_)=>(Gm (cq,b1,())).bind fun(cV,ev,_)=>(nw (ev,())).bind fun(eQ,_)=>some (cV,aQ (0-(if 0>aQ (aQ (aQ (j2+2)+bw)-bV) then 0 else aQ (aQ (aQ (j2+2)+bw)-bV))),(eQ !=0),())
def LV:(dO×dO×Int×Unit)->Option b8:=fun(ba,b1,BP,_)=>(qv (ba,())).bind fun(bw,_)=>(qv (b1,())).bind fun(bV,_)=>Option.bind (α:=Aa⊕b8) (bif bw.1==false then bif bV.1==false then(nw (bV.2.1,())).bind fun(cq,_)=>bif cq==0 then some (.inr (9221120237041090560,())) else some (.inl (bw,bV,())) else some (.inr (9221120237041090560,())) else some (.inr (9221120237041090560,()))) fun q=>match q with
 |.inl (Kl,PZ,_)=>((nw (Kl.2.1,())).bind fun(eQ,_)=>bif eQ==0 then some (0,()) else(vO (Kl.2.1,())).bind fun(gx,_)=>(vO (PZ.2.1,())).bind fun(f8,_)=>(LP (gx,f8,60,())).bind fun(iK,hH,jJ,_)=>(Du ((!(Kl.2.1.1==PZ.2.1.1)),iK,aQ (aQ (Kl.2.2.1-PZ.2.2.1)+hH),jJ,BP,())).bind fun(qT,_)=>some (qT,()))
 |.inr r=>some r
def Lr:(Int×Int×Int×Unit)->Option gP:=fun(h3,arN,apq,_)=>(bif decide (h3>=arN)==true then some (decide (h3<=apq),()) else some (false,()))
def Lw:fV->Option gP:=fun(cN,_)=>(loop (σ:=b8) (ρ:=sq) (fun(ht,_)=>bif decide (ht>0) then(bf cN ht).bind fun gO=>(bf cN (aQ (ht-1))).bind fun e0=>(Au (gO,e0,())).bind fun(bV,_)=>bif bV then some (.inr (.inr (false,()))) else some (.inl (aQ (ht-1),())) else some (.inr (.inl ()))) (aQ (aS cN-1),())).bind fun q=>match q with
 |.inl _=>(some (true,()))
 |.inr r=>some r
def Lo:pN->Option gP:=fun(b0,_)=>Option.bind (α:=Unit⊕gP) (bif (aS b0.2.2.1 !=bN b0.2.1)==false then(bf b0.2.2.1 0).bind fun dU=>bif (dU !=0)==false then(Lw (b0.2.2.1,())).bind fun(a5,_)=>bif (!a5)==false then(bf b0.2.2.1 b0.2.1).bind fun e0=>bif (e0 !=aS b0.2.2.2.1)==false then bif aS b0.2.2.2.1 !=aS b0.2.2.2.2.1 then some (.inr (false,())) else some (.inl ()) else some (.inr (false,())) else some (.inr (false,())) else some (.inr (false,())) else some (.inr (false,()))) fun q=>match q with
 |.inl _=>((loop (σ:=b8) (ρ:=sq) (fun(gK,_)=>bif decide (gK<b0.2.1) then((bf b0.2.2.1 gK).bind fun ep=>(bf b0.2.2.1 (bN gK)).bind fun ga=>((jh ep).bind fun yO=>(jh ga).bind fun yP=>(jG yO yP (b0.2.2.2.1).length).map fun _=>(yO,yP)).bind fun m0=>(loop (σ:=qp) (ρ:=(Unit⊕(b8⊕sq))) (fun(arz,pv,_)=>bif decide (pv<aS (((b0.2.2.2.1).take m0.2).drop m0.1)) then(Option.bind (α:=b8⊕(qp⊕(Unit⊕(b8⊕sq)))) ((bf (((b0.2.2.2.1).take m0.2).drop m0.1) pv).bind fun h7=>Option.bind (α:=Unit⊕(b8⊕(qp⊕(Unit⊕(b8⊕sq))))) (bif decide (h7<=arz)==false then bif decide (h7>=b0.1) then some (.inr (.inr (.inr (.inr (.inr (.inr (false,()))))))) else some (.inl ()) else some (.inr (.inr (.inr (.inr (.inr (.inr (false,())))))))) fun q=>match q with
 |.inl _=>(some (.inl (h7,())))
 |.inr r=>some r) fun q=>match q with
 |.inl (arA,_)=>(some (.inl (arA,bN pv,())))
 |.inr r=>some r) else some (.inr (.inl ()))) ((-1:Int),0,())).bind fun q=>match q with
 |.inl _=>(some (.inl (bN gK,())))
 |.inr r=>some r) else some (.inr (.inl ()))) (0,())).bind fun q=>match q with
 |.inl _=>(some (true,()))
 |.inr r=>some r)
 |.inr r=>some r
def Qu:b8->Option gP:=fun(hY,_)=>(Av (hY,())).bind fun(bo,_)=>some ((!bo),())
def Qw:(bx×Unit×Unit)->Option b8:=fun(f9,_,_)=>(loop (σ:=b8) (ρ:=sr) (fun(iZ,_)=>bif decide (iZ<aS f9) then(bf f9 iZ).bind fun e0=>(Qu (e0,())).bind fun(bV,_)=>bif bV then some (.inr (.inr (iZ,()))) else some (.inl (bN iZ,())) else some (.inr (.inl ()))) (0,())).bind fun q=>match q with
 |.inl _=>(some ((-1:Int),()))
 |.inr r=>some r
def Lu:(bx×Unit×Unit)->Option gP:=fun(f9,_,_)=>(Qw (f9,(),())).bind fun(a5,_)=>some (decide (a5>=0),())
def x6:pN->Option b8:=fun(b0,_)=>Option.bind (α:=gP) ((Lr (b0.1,0,200,())).bind fun(bo,_)=>bif (!bo)==false then(Lr (b0.2.1,0,200,())).bind fun(a5,_)=>bif (!a5)==false then some (decide (aS b0.2.2.2.1>10000),()) else some (true,()) else some (true,())) fun(eZ,_)=>(bif eZ then some (6,()) else(Lo (b0,())).bind fun(bV,_)=>bif !bV then some (1,()) else(Lu (b0.2.2.2.2.1,(),())).bind fun(cq,_)=>bif cq then some (4,()) else some (0,()))
def Mf:ro->Option (bx×Bool×Unit):=fun(Uo,c5,_)=>(bif aS Uo !=c5 then some ([],false,()) else((fJ c5 c5).bind fun atb=>(fJ c5 c5).bind fun TU=>(loop (σ:=(Int×bx×nq×Unit)) (ρ:=(fV⊕(bx×Bool×Unit))) (fun(u4,Ot,OS,_)=>bif decide (u4<aS Uo) then(Option.bind (α:=(bx×nq×Unit)⊕((Int×bx×nq×Unit)⊕(fV⊕(bx×Bool×Unit)))) ((bf Uo u4).bind fun q5=>Option.bind (α:=(bx×nq×Unit)⊕((bx×nq×Unit)⊕((Int×bx×nq×Unit)⊕(fV⊕(bx×Bool×Unit))))) (Option.bind (α:=(Bool×bx×nq×Unit)) (bif decide (q5<0)==false then bif decide (q5>=c5)==false then rd OS q5 fun mv=>some (mv,Ot,OS,()) else some (true,Ot,OS,()) else some (true,Ot,OS,())) fun(Vb,awq,ayp,_)=>bif Vb then some (.inr (.inr (.inr (.inr ([],false,()))))) else some (.inl (awq,ayp,()))) fun q=>match q with
 |.inl (awr,ayq,_)=>(wr awr q5 u4 fun aAE=>wr ayq q5 true fun JV=>some (.inl (aAE,JV,())))
 |.inr r=>some r) fun q=>match q with
 |.inl (aws,ayr,_)=>(some (.inl (bN u4,aws,ayr,())))
 |.inr r=>some r) else some (.inr (.inl (Ot,())))) (0,List.replicate atb (0:Int),List.replicate TU false,())).bind fun q=>match q with
 |.inl (awt,_)=>(some (awt,true,()))
 |.inr r=>some r))
def Dp:pN->Option l4:=fun(b0,_)=>(loop (σ:=vB) (ρ:=l4) (fun(ln,lQ,_)=>bif decide (ln<b0.2.1) then(bf b0.2.2.1 ln).bind fun e0=>(loop (σ:=vB) (ρ:=l4) (fun(lh,tk,_)=>(bf b0.2.2.1 (bN ln)).bind fun ga=>bif decide (lh<ga) then(bf b0.2.2.2.1 lh).bind fun hJ=>(bf b0.2.2.2.2.1 lh).bind fun dj=>(di (tk.length+([(hJ,(ln,(dj,())))]).length)).bind fun _=>some (.inl (bN lh,(tk++[(hJ,(ln,(dj,())))]),())) else some (.inr (tk,()))) (e0,lQ,())).bind fun(za,_)=>some (.inl (bN ln,za,())) else some (.inr (lQ,()))) (0,[],())).bind fun(wY,_)=>some (wY,())
def Qv:l4->Option l4:=fun(f9,_)=>rT f9.length (some ([],())) ((di (([]:nr).length+f9.length)).bind fun _=>some (([]++f9),()))
def Lq:((Int×(Int×b8))×(Int×(Int×b8))×Unit)->Option b8:=fun(ba,b1,_)=>(Dd (ba.2.1,b1.2.1,())).bind fun(a5,_)=>(Dd (ba.1,b1.1,())).bind fun(bw,_)=>(KP ([a5,bw],())).bind fun(bV,_)=>some (bV,())
def Ge:(nr×Int×Int×Unit×Unit)->Option l4:=fun(AJ,Ac,FL,_,_)=>(loop (σ:=vB) (ρ:=l4) (fun(wx,GK,_)=>bif decide (wx<FL) then(loop (σ:=vB) (ρ:=l4) (fun(jF,GL,_)=>Option.bind (α:=l4⊕(vB⊕l4)) (bif decide (jF>Ac)==true then rd GL jF fun hA=>rd GL (aQ (jF-1)) fun xw=>(Lq (hA,xw,())).bind fun(qT,_)=>bif decide (qT<0) then some (.inl (GL,())) else some (.inr (.inr (GL,()))) else some (.inr (.inr (GL,())))) fun q=>match q with
 |.inl (QD,_)=>(rd QD (aQ (jF-1)) fun vf=>rd QD jF fun j7=>wr QD jF vf fun xz=>wr xz (aQ (jF-1)) j7 fun JU=>some (.inl (aQ (jF-1),JU,())))
 |.inr r=>some r) (wx,GK,())).bind fun(QE,_)=>some (.inl (bN wx,QE,())) else some (.inr (GK,()))) (bN Ac,AJ,())).bind fun(alR,_)=>some (alR,())
def QA:(nr×Int×Unit×Unit)->Option l4:=fun(AJ,c5,_,_)=>(loop (σ:=PH) (ρ:=vB) (fun(FH,Kw,GK,_)=>bif decide (Kw<=c5) then(Ge (GK,FH,Kw,(),())).bind fun(asa,_)=>some (.inl (Kw,aQ (Kw+20),asa,())) else some (.inr (FH,GK,()))) (0,20,AJ,())).bind fun(Km,alS,_)=>(Ge (alS,Km,c5,(),())).bind fun(TB,_)=>(loop (σ:=vB) (ρ:=l4) (fun(akG,alO,_)=>bif decide (akG<c5) then none else some (.inr (alO,()))) (20,TB,())).bind fun(alP,_)=>some (alP,())
def Qz:(nr×Unit×Unit)->Option l4:=fun(cN,_,_)=>(QA (cN,aS cN,(),())).bind fun(jg,_)=>some (jg,())
def Lp:l4->Option l4:=fun(fc,_)=>(Qv (fc,())).bind fun(bo,_)=>(Qz (bo,(),())).bind fun(jg,_)=>some (jg,())
def Ln:PH->Option pN:=fun(zm,vK,Ek,_)=>(fJ (bN vK) (bN vK)).bind fun p2=>(Lp (Ek,())).bind fun(bV,_)=>(loop (σ:=(Int×cW×cW×nr×Unit)) (ρ:=(cW×cW×Unit)) (fun(hI,hf,bd,jj,_)=>bif decide (hI<aS bV) then rd jj hI fun dd=>(di ((bd.2.2.2.1).length+([dd.1]).length)).bind fun _=>(di ((bd.2.2.2.2.1).length+([dd.2.2.1]).length)).bind fun _=>(cH (((bd.1,(bd.2.1,(bd.2.2.1,((bd.2.2.2.1++[dd.1]),bd.2.2.2.2)))).1,((bd.1,(bd.2.1,(bd.2.2.1,((bd.2.2.2.1++[dd.1]),bd.2.2.2.2)))).2.1,((bd.1,(bd.2.1,(bd.2.2.1,((bd.2.2.2.1++[dd.1]),bd.2.2.2.2)))).2.2.1,((bd.1,(bd.2.1,(bd.2.2.1,((bd.2.2.2.1++[dd.1]),bd.2.2.2.2)))).2.2.2.1,(((bd.1,(bd.2.1,(bd.2.2.1,((bd.2.2.2.1++[dd.1]),bd.2.2.2.2)))).2.2.2.2.1++[dd.2.2.1]),(bd.1,(bd.2.1,(bd.2.2.1,((bd.2.2.2.1++[dd.1]),bd.2.2.2.2)))).2.2.2.2.2))))).2.2.1).length (bN dd.2.1)).bind fun aq2=>(cb ((bd.1,(bd.2.1,(bd.2.2.1,((bd.2.2.2.1++[dd.1]),bd.2.2.2.2)))).1,((bd.1,(bd.2.1,(bd.2.2.1,((bd.2.2.2.1++[dd.1]),bd.2.2.2.2)))).2.1,((bd.1,(bd.2.1,(bd.2.2.1,((bd.2.2.2.1++[dd.1]),bd.2.2.2.2)))).2.2.1,((bd.1,(bd.2.1,(bd.2.2.1,((bd.2.2.2.1++[dd.1]),bd.2.2.2.2)))).2.2.2.1,(((bd.1,(bd.2.1,(bd.2.2.1,((bd.2.2.2.1++[dd.1]),bd.2.2.2.2)))).2.2.2.2.1++[dd.2.2.1]),(bd.1,(bd.2.1,(bd.2.2.1,((bd.2.2.2.1++[dd.1]),bd.2.2.2.2)))).2.2.2.2.2))))).2.2.1 aq2 fun al6=>some al6).bind fun Cw=>
 (cH (((bd.1,(bd.2.1,(bd.2.2.1,((bd.2.2.2.1++[dd.1]),bd.2.2.2.2)))).1,((bd.1,(bd.2.1,(bd.2.2.1,((bd.2.2.2.1++[dd.1]),bd.2.2.2.2)))).2.1,((bd.1,(bd.2.1,(bd.2.2.1,((bd.2.2.2.1++[dd.1]),bd.2.2.2.2)))).2.2.1,((bd.1,(bd.2.1,(bd.2.2.1,((bd.2.2.2.1++[dd.1]),bd.2.2.2.2)))).2.2.2.1,(((bd.1,(bd.2.1,(bd.2.2.1,((bd.2.2.2.1++[dd.1]),bd.2.2.2.2)))).2.2.2.2.1++[dd.2.2.1]),(bd.1,(bd.2.1,(bd.2.2.1,((bd.2.2.2.1++[dd.1]),bd.2.2.2.2)))).2.2.2.2.2))))).2.2.1).length (bN dd.2.1)).bind fun NG=>((((cb ((bd.1,(bd.2.1,(bd.2.2.1,((bd.2.2.2.1++[dd.1]),bd.2.2.2.2)))).1,((bd.1,(bd.2.1,(bd.2.2.1,((bd.2.2.2.1++[dd.1]),bd.2.2.2.2)))).2.1,((bd.1,(bd.2.1,(bd.2.2.1,((bd.2.2.2.1++[dd.1]),bd.2.2.2.2)))).2.2.1,((bd.1,(bd.2.1,(bd.2.2.1,((bd.2.2.2.1++[dd.1]),bd.2.2.2.2)))).2.2.2.1,(((bd.1,(bd.2.1,(bd.2.2.1,((bd.2.2.2.1++[dd.1]),bd.2.2.2.2)))).2.2.2.2.1++[dd.2.2.1]),(bd.1,(bd.2.1,(bd.2.2.1,((bd.2.2.2.1++[dd.1]),bd.2.2.2.2)))).2.2.2.2.2))))).2.2.1 NG fun _=>some ((((bd.1,(bd.2.1,(bd.2.2.1,((bd.2.2.2.1++[dd.1]),bd.2.2.2.2)))).1,((bd.1,(bd.2.1,(bd.2.2.1,((bd.2.2.2.1++[dd.1]),bd.2.2.2.2)))).2.1,((bd.1,(bd.2.1,(bd.2.2.1,((bd.2.2.2.1++[dd.1]),bd.2.2.2.2)))).2.2.1,((bd.1,(bd.2.1,(bd.2.2.1,((bd.2.2.2.1++[dd.1]),bd.2.2.2.2)))).2.2.2.1,(((bd.1,(bd.2.1,(bd.2.2.1,((bd.2.2.2.1++[dd.1]),bd.2.2.2.2)))).2.2.2.2.1++[dd.2.2.1]),(bd.1,(bd.2.1,(bd.2.2.1,((bd.2.2.2.1++[dd.1]),bd.2.2.2.2)))).2.2.2.2.2))))).2.2.1).set NG (bN Cw))).map fun xy=>(xy,((bd.1,(bd.2.1,(bd.2.2.1,((bd.2.2.2.1++[dd.1]),bd.2.2.2.2)))).1,((bd.1,(bd.2.1,(bd.2.2.1,((bd.2.2.2.1++[dd.1]),bd.2.2.2.2)))).2.1,((bd.1,(bd.2.1,(bd.2.2.1,((bd.2.2.2.1++[dd.1]),bd.2.2.2.2)))).2.2.1,((bd.1,(bd.2.1,(bd.2.2.1,((bd.2.2.2.1++[dd.1]),bd.2.2.2.2)))).2.2.2.1,(((bd.1,(bd.2.1,(bd.2.2.1,((bd.2.2.2.1++[dd.1]),bd.2.2.2.2)))).2.2.2.2.1++[dd.2.2.1]),(bd.1,(bd.2.1,(bd.2.2.1,((bd.2.2.2.1++[dd.1]),bd.2.2.2.2)))).2.2.2.2.2))))).2.2.2)).map fun JR=>(((bd.1,(bd.2.1,(bd.2.2.1,((bd.2.2.2.1++[dd.1]),bd.2.2.2.2)))).1,((bd.1,(bd.2.1,(bd.2.2.1,((bd.2.2.2.1++[dd.1]),bd.2.2.2.2)))).2.1,((bd.1,(bd.2.1,(bd.2.2.1,((bd.2.2.2.1++[dd.1]),bd.2.2.2.2)))).2.2.1,((bd.1,(bd.2.1,(bd.2.2.1,((bd.2.2.2.1++[dd.1]),bd.2.2.2.2)))).2.2.2.1,(((bd.1,(bd.2.1,(bd.2.2.1,((bd.2.2.2.1++[dd.1]),bd.2.2.2.2)))).2.2.2.2.1++[dd.2.2.1]),(bd.1,(bd.2.1,(bd.2.2.1,((bd.2.2.2.1++[dd.1]),bd.2.2.2.2)))).2.2.2.2.2))))).2.1,JR)).map fun CC=>(((bd.1,(bd.2.1,(bd.2.2.1,((bd.2.2.2.1++[dd.1]),bd.2.2.2.2)))).1,((bd.1,(bd.2.1,(bd.2.2.1,((bd.2.2.2.1++[dd.1]),bd.2.2.2.2)))).2.1,((bd.1,(bd.2.1,(bd.2.2.1,((bd.2.2.2.1++[dd.1]),bd.2.2.2.2)))).2.2.1,((bd.1,(bd.2.1,(bd.2.2.1,((bd.2.2.2.1++[dd.1]),bd.2.2.2.2)))).2.2.2.1,(((bd.1,(bd.2.1,(bd.2.2.1,((bd.2.2.2.1++[dd.1]),bd.2.2.2.2)))).2.2.2.2.1++[dd.2.2.1]),(bd.1,(bd.2.1,(bd.2.2.1,((bd.2.2.2.1++[dd.1]),bd.2.2.2.2)))).2.2.2.2.2))))).1,CC)).bind fun JS=>
 some (.inl (bN hI,hf,JS,jj,())) else some (.inr (hf,bd,()))) (0,((0:Int),((0:Int),([],([],([],()))))),(zm,(vK,(List.replicate p2 (0:Int),(([]:bx),(([]:bx),()))))),bV,())).bind fun(Cg,f0,_)=>(loop (σ:=(Int×cW×cW×Unit)) (ρ:=(cW×cW×Unit)) (fun(r2,xc,wM,_)=>bif decide (r2<vK) then rd wM.2.2.1 (bN r2) fun JM=>rd wM.2.2.1 r2 fun Fe=>(cH (wM.2.2.1).length (bN r2)).bind fun s9=>((((cb wM.2.2.1 s9 fun _=>some ((wM.2.2.1).set s9 (aQ (JM+Fe)))).map fun aAA=>(aAA,wM.2.2.2)).map fun aAB=>(wM.2.1,aAB)).map fun CE=>(wM.1,CE)).bind fun V3=>some (.inl (bN r2,xc,V3,())) else some (.inr (xc,wM,()))) (0,Cg,f0,())).bind fun(_,wO,_)=>some (wO,())
def Lm:pN->Option (cW×Int×Unit):=fun(b0,_)=>(x6 (b0,())).bind fun(bw,_)=>(bif bw !=0 then some (((0:Int),((0:Int),(([]:bx),(([]:bx),(([]:bx),()))))),bw,()) else(Dp (b0,())).bind fun(bV,_)=>(loop (σ:=(Int×cW×nr×nr×Unit)) (ρ:=(cW×nr×Unit)) (fun(hI,hf,jI,jj,_)=>bif decide (hI<aS bV) then Option.bind (α:=(cW×nr×nr×Unit)) (rd jj hI fun dd=>bif decide (dd.1>=dd.2.1) then(di (jI.length+([dd]).length)).bind fun _=>some (hf,(jI++[dd]),jj,()) else some (hf,jI,jj,())) fun(xa,p6,qY,_)=>some (.inl (bN hI,xa,p6,qY,())) else some (.inr (hf,jI,()))) (0,((0:Int),((0:Int),([],([],([],()))))),[],bV,())).bind fun(_,Oj,_)=>(Ln (b0.1,b0.2.1,Oj,())).bind fun(w7,_)=>some (w7,0,()))
def Ll:pN->Option l4:=fun(b0,_)=>(x6 (b0,())).bind fun(bw,_)=>(bif bw !=0 then some ([],()) else(Dp (b0,())).bind fun(bV,_)=>some (bV,()))
def F2:pN->Option ((List bx×Unit)×Int×Unit):=fun(b0,_)=>(x6 (b0,())).bind fun(bo,_)=>(bif bo !=0 then some ((([]:List bx),()),bo,()) else bif b0.1 !=b0.2.1 then some ((([]:List bx),()),5,()) else(F3 (b0.2.1,())).bind fun(a5,_)=>(Ll (b0,())).bind fun(bw,_)=>(loop (σ:=(Int×(List bx×Unit)×List nq×nr×Unit)) (ρ:=((List bx×Unit)×List nq×Unit)) (fun(gK,hI,hf,lq,_)=>bif decide (gK<aS bw) then rd lq gK fun hA=>(F6 (hf,hA.1,hA.2.1,())).bind fun(ar6,_)=>some (.inl (bN gK,hI,ar6,lq,())) else some (.inr (hI,hf,()))) (0,([],()),a5,bw,())).bind fun(_,u2,_)=>(F5 (u2,())).bind fun(qT,_)=>some (qT,0,()))
def AI:(cW×bx×Unit)->Option (Option rn×Int×Unit):=fun(ba,h4,_)=>(x6 (ba,())).bind fun(adL,_)=>(bif adL !=0 then some (none,adL,()) else bif ba.1 !=ba.2.1 then some (none,5,()) else(Mf (h4,ba.2.1,())).bind fun(adM,awX,_)=>bif !awX then some (none,90,()) else(Lm (ba,())).bind fun(awY,_,_)=>(F2 (awY,())).bind fun(awZ,_,_)=>(F4 (awZ,h4,())).bind fun(adN,_,_)=>(fJ ba.2.1 ba.2.1).bind fun ab6=>(loop (σ:=(Int×cW×rn×Unit)) (ρ:=(cW×rn×Unit)) (fun(Vc,WI,BK,_)=>bif decide (Vc<aS ((ba.2.1,(adN,(List.replicate ab6 (none:Option (List (Int×dO)×Nat)),()))).2.2.1)) then(cH (BK.2.2.1).length Vc).bind fun aa8=>((((cb BK.2.2.1 aa8 fun _=>some ((BK.2.2.1).set aa8 (some ([],0)))).map fun aAN=>(aAN,BK.2.2.2)).map fun aAO=>(BK.2.1,aAO)).map fun aAP=>(BK.1,aAP)).bind fun aAQ=>some (.inl (bN Vc,WI,aAQ,())) else some (.inr (WI,BK,()))) (0,ba,(ba.2.1,(adN,(List.replicate ab6 (none:Option (List (Int×dO)×Nat)),()))),())).bind fun(WJ,ast,_)=>
 (loop (σ:=(Int×cW×rn×Unit)) (ρ:=(rn×Unit)) (fun(EY,WK,abJ,_)=>bif decide (EY<WJ.2.1) then(bf WK.2.2.1 EY).bind fun aAr=>(loop (σ:=(Int×cW×rn×Unit)) (ρ:=(cW×rn×Unit)) (fun(Kv,C0,wP,_)=>(bf C0.2.2.1 (bN EY)).bind fun aAs=>bif decide (Kv<aAs) then Option.bind (α:=(cW×rn×Unit)) ((bf C0.2.2.2.1 Kv).bind fun afJ=>bif decide (afJ>=EY) then(bf adM afJ).bind fun Pq=>(bf adM EY).bind fun Pr=>(cH (wP.2.2.1).length (if Pr<Pq then Pr else Pq)).bind fun Te=>(bf C0.2.2.2.2.1 Kv).bind fun aAt=>(Aw (aAt,())).bind fun(aw5,_)=>(cb wP.2.2.1 Te fun amn=>some amn).bind fun asY=>(wL asY (if Pr>Pq then Pr else Pq) aw5).bind fun as2=>((((cb wP.2.2.1 Te fun _=>some ((wP.2.2.1).set Te as2)).map fun aAR=>(aAR,wP.2.2.2)).map fun aAS=>(wP.2.1,aAS)).map fun aAT=>(wP.1,aAT)).bind fun aAU=>some (C0,aAU,()) else some (C0,wP,())) fun(ajZ,asu,_)=>some (.inl (bN Kv,ajZ,asu,())) else some (.inr (C0,wP,()))) (aAr,WK,abJ,())).bind fun(aj0,asv,_)=>
 some (.inl (bN EY,aj0,asv,())) else some (.inr (abJ,()))) (0,WJ,ast,())).bind fun(asg,_)=>some (some asg,0,()))
def KL:(Option rn×Unit)->Option (oT×Unit):=fun(b0,_)=>b0.bind fun dU=>(Mc (dU.2.1,())).bind fun(a5,_,_)=>b0.bind fun eH=>(fJ eH.1 eH.1).bind fun ate=>b0.bind fun ga=>(fJ ga.1 ga.1).bind fun atf=>b0.bind fun dj=>(fJ dj.1 dj.1).bind fun as6=>(loop (σ:=(Int×oT×Unit)) (ρ:=(oT×Unit)) (fun(jK,FO,_)=>bif decide (jK<aS a5) then(bf a5 jK).bind fun h7=>(loop (σ:=(Int×oT×Unit)) (ρ:=(oT×Unit)) (fun(u2,oW,_)=>bif decide (u2<aS h7) then Option.bind (α:=(oT×Unit)) ((bf h7 u2).bind fun JK=>bif decide (JK>jK) then(cH (oW.2.2.2.1).length JK).bind fun HP=>(cb oW.2.2.2.1 HP fun al9=>some al9).bind fun az8=>(di (az8.length+([jK]).length)).bind fun _=>(cH (oW.2.2.2.1).length JK).bind fun NH=>bif Nat.beq HP NH&&true then(cb oW.2.2.2.1 NH fun ama=>some ama).bind fun az9=>(((((cb oW.2.2.2.1 NH fun _=>some ((oW.2.2.2.1).set NH (az9++[jK]))).map fun xz=>(xz,oW.2.2.2.2)).map fun JT=>(oW.2.2.1,JT)).map fun CD=>(oW.2.1,CD)).map fun JU=>(oW.1,JU)).bind fun aAx=>
 some (aAx,()) else none else some (oW,())) fun(akZ,_)=>some (.inl (bN u2,akZ,())) else some (.inr (oW,()))) (0,FO,())).bind fun(ak0,_)=>some (.inl (bN jK,ak0,())) else some (.inr (FO,()))) (0,(a5,(List.replicate ate [],(List.replicate atf (none:Option (List (Int×dO)×Nat)),(List.replicate as6 [],())))),())).bind fun(ak1,_)=>some (ak1,())
def Me:(Option rn×Int×Int×Unit)->Option gF:=fun(b0,ht,hP,_)=>b0.bind fun e0=>(bf e0.2.2.1 (if hP<ht then hP else ht)).bind fun eH=>some (((lM (α:=dO) eH (if hP>ht then hP else ht)).getD (false,((false,([],())),((0:Int),())))),())
def FV:(Option oT×Option rn×Int×Int×Unit)->Option gF:=fun(oc,pk,eL,pZ,_)=>(Me (pk,eL,pZ,())).bind fun(bV,_)=>oc.bind fun ep=>(bf ep.2.2.2.1 pZ).bind fun ga=>(loop (σ:=(Int×dO×oS×Unit)) (ρ:=(dO×oS×Unit)) (fun(lq,jj,O2,_)=>bif decide (lq<aS ga) then Option.bind (α:=(dO×oS×Unit)) ((bf ga lq).bind fun hA=>oc.bind fun dd=>(bf dd.2.2.1 hA).bind fun h7=>bif (lM (α:=dO) h7 eL).isSome then oc.bind fun xw=>(bf xw.2.2.1 hA).bind fun Cw=>(KR (((lM (α:=dO) h7 eL).getD (false,((false,([],())),((0:Int),())))),((lM (α:=dO) Cw pZ).getD (false,((false,([],())),((0:Int),())))),())).bind fun(qU,_)=>(KS (qU,())).bind fun(rZ,_)=>(di (O2.length+([rZ]).length)).bind fun _=>some (jj,(O2++[rZ]),()) else some (jj,O2,())) fun(u3,azf,_)=>some (.inl (bN lq,u3,azf,())) else some (.inr (jj,O2,()))) (0,(false,((false,([],())),((0:Int),()))),[bV],())).bind fun(_,azg,_)=>(KX (azg,())).bind fun(EP,_)=>
 some (EP,())
def KM:(oT×Option rn×Int×Unit)->Option (oT×Int×Unit):=fun(oc,pk,hP,_)=>(FV (some oc,pk,hP,hP,())).bind fun(bw,_)=>(x4 (bw,())).bind fun(bV,_)=>(bif decide (bV<=0) then some (oc,231,()) else(K4 (bw,0,())).bind fun(cq,_)=>(K2 (cq,())).bind fun(cV,_)=>bif cV==0 then some (oc,231,()) else(Aw (cq,())).bind fun(ev,_)=>(wL (some ([],0)) hP ev).bind fun as1=>(cH (oc.2.1).length hP).bind fun iG=>(((cb oc.2.1 iG fun _=>some ((oc.2.1).set iG [cq])).map fun JQ=>(JQ,oc.2.2)).map fun tI=>(oc.1,tI)).bind fun nb=>(cH (nb.2.2.1).length hP).bind fun HO=>((((cb nb.2.2.1 HO fun _=>some ((nb.2.2.1).set HO as1)).map fun CB=>(CB,nb.2.2.2)).map fun xy=>(nb.2.1,xy)).map fun JR=>(nb.1,JR)).bind fun CC=>(Av (cq,())).bind fun(pq,_)=>bif !pq then some (CC,233,()) else((bf CC.1 hP).bind fun j7=>((jh 1).bind fun H3=>(some j7.length).bind fun H4=>(jG H3 H4 j7.length).map fun _=>(H3,H4)).bind fun Oy=>
 (loop (σ:=(Int×oT×Unit)) (ρ:=((oT×Unit)⊕(oT×Int×Unit))) (fun(zr,ru,_)=>bif decide (zr<aS ((j7.take Oy.2).drop Oy.1)) then(bf ((j7.take Oy.2).drop Oy.1) zr).bind fun sf=>(FV (some ru,pk,sf,hP,())).bind fun(I5,_)=>(Aw (cq,())).bind fun(EQ,_)=>(K3 (I5,EQ,0,())).bind fun(uW,_)=>(Av (uW,())).bind fun(OG,_)=>bif !OG then some (.inr (.inr (ru,233,()))) else(cH (ru.2.2.1).length hP).bind fun s9=>(cH (ru.2.1).length hP).bind fun aa4=>(cb ru.2.1 aa4 fun GR=>some GR).bind fun aAa=>(di (aAa.length+([uW]).length)).bind fun _=>(Aw (uW,())).bind fun(UO,_)=>(cH (ru.2.1).length hP).bind fun NI=>bif Nat.beq aa4 NI&&true then(cb ru.2.1 NI fun ami=>some ami).bind fun aAc=>(((cb ru.2.1 NI fun _=>some ((ru.2.1).set NI (aAc++[uW]))).map fun aAG=>(aAG,ru.2.2)).map fun JV=>(ru.1,JV)).bind fun zI=>(cb zI.2.2.1 s9 fun amk=>some amk).bind fun abY=>(wL abY sf ((lM (α:=dO) abY sf).getD (false,((false,([],())),((0:Int),()))))).bind fun asZ=>
 ((((cb zI.2.2.1 s9 fun _=>some ((zI.2.2.1).set s9 asZ)).map fun aAH=>(aAH,zI.2.2.2)).map fun JW=>(zI.2.1,JW)).map fun aAI=>(zI.1,aAI)).bind fun Fg=>bif Nat.beq s9 s9&&true then(cb Fg.2.2.1 s9 fun aml=>some aml).bind fun asX=>(wL asX sf UO).bind fun as0=>((((cb Fg.2.2.1 s9 fun _=>some ((Fg.2.2.1).set s9 as0)).map fun aAJ=>(aAJ,Fg.2.2.2)).map fun aAK=>(Fg.2.1,aAK)).map fun aAL=>(Fg.1,aAL)).bind fun aAM=>some (.inl (bN zr,aAM,())) else none else none else some (.inr (.inl (ru,())))) (0,CC,())).bind fun q=>match q with
 |.inl (ak2,_)=>(some (ak2,0,()))
 |.inr r=>some r))
def Lt:fV->Option fV:=fun(f9,_)=>rT f9.length (some ([],())) ((di (([]:bx).length+f9.length)).bind fun _=>some (([]++f9),()))
def KN:(Option oT×bx×Unit)->Option (fU×Unit):=fun(oc,h4,_)=>(Lt (h4,())).bind fun(a5,_)=>oc.bind fun e0=>(loop (σ:=(Int×fU×fU×Unit)) (ρ:=(fU×fU×Unit)) (fun(gK,hI,bZ,_)=>bif decide (gK<aS e0.1) then oc.bind fun hJ=>(bf hJ.1 gK).bind fun dj=>(di ((bZ.2.2.1).length+dj.length)).bind fun _=>oc.bind fun gN=>(bf gN.2.1 gK).bind fun hA=>(di (((bZ.1,(bZ.2.1,((bZ.2.2.1++dj),bZ.2.2.2))).2.2.2.1).length+hA.length)).bind fun _=>(di ((((bZ.1,(bZ.2.1,((bZ.2.2.1++dj),bZ.2.2.2))).1,((bZ.1,(bZ.2.1,((bZ.2.2.1++dj),bZ.2.2.2))).2.1,((bZ.1,(bZ.2.1,((bZ.2.2.1++dj),bZ.2.2.2))).2.2.1,(((bZ.1,(bZ.2.1,((bZ.2.2.1++dj),bZ.2.2.2))).2.2.2.1++hA),(bZ.1,(bZ.2.1,((bZ.2.2.1++dj),bZ.2.2.2))).2.2.2.2)))).2.1).length+([aS (((bZ.1,(bZ.2.1,((bZ.2.2.1++dj),bZ.2.2.2))).1,((bZ.1,(bZ.2.1,((bZ.2.2.1++dj),bZ.2.2.2))).2.1,((bZ.1,(bZ.2.1,((bZ.2.2.1++dj),bZ.2.2.2))).2.2.1,(((bZ.1,(bZ.2.1,((bZ.2.2.1++dj),bZ.2.2.2))).2.2.2.1++hA),(bZ.1,(bZ.2.1,((bZ.2.2.1++dj),bZ.2.2.2))).2.2.2.2)))).2.2.1)]).length)).bind fun _=>
 some (.inl (bN gK,hI,(((bZ.1,(bZ.2.1,((bZ.2.2.1++dj),bZ.2.2.2))).1,((bZ.1,(bZ.2.1,((bZ.2.2.1++dj),bZ.2.2.2))).2.1,((bZ.1,(bZ.2.1,((bZ.2.2.1++dj),bZ.2.2.2))).2.2.1,(((bZ.1,(bZ.2.1,((bZ.2.2.1++dj),bZ.2.2.2))).2.2.2.1++hA),(bZ.1,(bZ.2.1,((bZ.2.2.1++dj),bZ.2.2.2))).2.2.2.2)))).1,((((bZ.1,(bZ.2.1,((bZ.2.2.1++dj),bZ.2.2.2))).1,((bZ.1,(bZ.2.1,((bZ.2.2.1++dj),bZ.2.2.2))).2.1,((bZ.1,(bZ.2.1,((bZ.2.2.1++dj),bZ.2.2.2))).2.2.1,(((bZ.1,(bZ.2.1,((bZ.2.2.1++dj),bZ.2.2.2))).2.2.2.1++hA),(bZ.1,(bZ.2.1,((bZ.2.2.1++dj),bZ.2.2.2))).2.2.2.2)))).2.1++[aS (((bZ.1,(bZ.2.1,((bZ.2.2.1++dj),bZ.2.2.2))).1,((bZ.1,(bZ.2.1,((bZ.2.2.1++dj),bZ.2.2.2))).2.1,((bZ.1,(bZ.2.1,((bZ.2.2.1++dj),bZ.2.2.2))).2.2.1,(((bZ.1,(bZ.2.1,((bZ.2.2.1++dj),bZ.2.2.2))).2.2.2.1++hA),(bZ.1,(bZ.2.1,((bZ.2.2.1++dj),bZ.2.2.2))).2.2.2.2)))).2.2.1)]),((bZ.1,(bZ.2.1,((bZ.2.2.1++dj),bZ.2.2.2))).1,((bZ.1,(bZ.2.1,((bZ.2.2.1++dj),bZ.2.2.2))).2.1,((bZ.1,(bZ.2.1,((bZ.2.2.1++dj),bZ.2.2.2))).2.2.1,(((bZ.1,(bZ.2.1,((bZ.2.2.1++dj),bZ.2.2.2))).2.2.2.1++hA),(bZ.1,(bZ.2.1,((bZ.2.2.1++dj),bZ.2.2.2))).2.2.2.2)))).2.2)),())) else
 some (.inr (hI,bZ,()))) (0,([],([],([],([],())))),(a5,([0],(([]:bx),(([]:bx),())))),())).bind fun(_,anv,_)=>some (anv,())
def ue:(cW×bx×Unit)->Option Ab:=fun(ba,h4,_)=>(AI (ba,h4,())).bind fun(a5,bw,_)=>(bif bw !=0 then some ((([]:bx),(([]:bx),(([]:bx),(([]:bx),())))),0,bw,()) else((KL (a5,())).bind fun(bV,_)=>a5.bind fun ep=>(loop (σ:=(Int×fU×oT×Unit)) (ρ:=((fU×oT×Unit)⊕Ab)) (fun(hf,lq,XG,_)=>bif decide (hf<ep.1) then(KM (XG,a5,hf,())).bind fun(TB,f8,_)=>bif f8==0 then some (.inl (bN hf,lq,TB,())) else bif f8==231 then some (.inr (.inr ((([]:bx),(([]:bx),(([]:bx),(([]:bx),())))),hf,f8,()))) else some (.inr (.inr ((([]:bx),(([]:bx),(([]:bx),(([]:bx),())))),0,f8,()))) else some (.inr (.inl (lq,XG,())))) (0,([],([],([],([],())))),bV,())).bind fun q=>match q with
 |.inl (_,P8,_)=>((KN (some P8,h4,())).bind fun(jJ,_)=>a5.bind fun Cw=>some (jJ,Cw.1,0,()))
 |.inr r=>some r))
def LD:k3->Option gP:=fun(ba,b1,_)=>(bif aS ba !=aS b1 then some (false,()) else((loop (σ:=b8) (ρ:=sq) (fun(eL,_)=>bif decide (eL<aS ba) then(bf ba eL).bind fun e0=>(bf b1 eL).bind fun eH=>bif e0 !=eH then some (.inr (.inr (false,()))) else some (.inl (bN eL,())) else some (.inr (.inl ()))) (0,())).bind fun q=>match q with
 |.inl _=>(some (true,()))
 |.inr r=>some r))
def Gk:Unit->Option gP:=fun _=>(AG (4,0,())).bind fun(b2,_)=>(AG (2,0,())).bind fun(bo,_)=>(AG (5,0,())).bind fun(a5,_)=>(ue ((2,(2,([0,2,3],([0,1,1],([b2,bo,a5],()))))),[0,1],())).bind fun(bw,bV,cq,_)=>(bif (cq==0)==true then bif (bV==2)==true then(AE (bw.2.1,[0,2,3],())).bind fun(cV,_)=>bif cV==true then(LD (bw.2.2.2.1,[bo,4607182418800017408,bo],())).bind fun(ev,_)=>some (ev,()) else some (false,()) else some (false,()) else some (false,()))
def x7:qp->Option b8:=fun(ba,c5,_)=>(ji (bc ba) (bc c5)).bind fun gO=>some (aQ gO,())
def Gi:ro->Option b8:=fun(oB,yK,_)=>Option.bind (α:=b8) (bif decide (aS oB>0) then(x7 (yK,aS oB,())).bind fun(a5,_)=>(bf oB a5).bind fun e0=>some (zE IntKind.u64 (bc (bc (bN yK)*11400714819323198485)) e0,()) else some (bc (bc (bN yK)*11400714819323198485),())) fun(zD,_)=>(d6 IntKind.u64 zD 31).bind fun ep=>(d6 IntKind.u64 (bc (zE IntKind.u64 zD ep*13787848793156543929)) 29).bind fun ga=>some (zE IntKind.u64 (bc (zE IntKind.u64 zD ep*13787848793156543929)) ga,())
def QB:b8->Option b8:=fun(cN,_)=>(ji cN 19).bind fun dU=>(AG (aQ (aQ dU-9),0,())).bind fun(a5,_)=>some (a5,())
def LB:qp->Option b8:=fun(cN,ayW,_)=>(x7 (ayW,4,())).bind fun(a5,_)=>(bif a5==1 then(d6 IntKind.u64 cN 52).bind fun e0=>(iq IntKind.u64 (bc (1019+ed IntKind.u64 e0 7)) 52).bind fun eH=>some (fF IntKind.u64 (ed IntKind.u64 cN 9227875636482146303) eH,()) else bif a5==2 then(d6 IntKind.u64 cN 8).bind fun ep=>(ji ep 81).bind fun ga=>(iq IntKind.u64 (bc (983+ga)) 52).bind fun hJ=>some (fF IntKind.u64 (ed IntKind.u64 cN 9225623836668461056) hJ,()) else bif a5==3 then(AH (cN,())).bind fun(eQ,_)=>bif !eQ then some (0,()) else some (cN,()) else(QB (cN,())).bind fun(gx,_)=>some (gx,()))
def Gf:(bx×Int×Int×Int×Unit)->Option pN:=fun(oB,U0,X4,ayX,_)=>(loop (σ:=(Int×cW×cW×Unit)) (ρ:=(cW×cW×Unit)) (fun(S5,hI,Io,_)=>bif decide (S5<X4) then(loop (σ:=(Int×cW×cW×Unit)) (ρ:=(cW×cW×Unit)) (fun(ha,jj,gJ,_)=>bif decide (ha<U0) then Option.bind (α:=(cW×cW×Unit)) ((Gi (oB,aQ (aQ (100+aQ (S5*U0))+ha),())).bind fun(f8,_)=>(d6 IntKind.u64 f8 40).bind fun dd=>(ji dd 3).bind fun h7=>bif decide (h7>0) then(di ((gJ.2.2.2.1).length+([ha]).length)).bind fun _=>(LB (f8,ayX,())).bind fun(jJ,_)=>(di (((gJ.1,(gJ.2.1,(gJ.2.2.1,((gJ.2.2.2.1++[ha]),gJ.2.2.2.2)))).2.2.2.2.1).length+([jJ]).length)).bind fun _=>some (jj,((gJ.1,(gJ.2.1,(gJ.2.2.1,((gJ.2.2.2.1++[ha]),gJ.2.2.2.2)))).1,((gJ.1,(gJ.2.1,(gJ.2.2.1,((gJ.2.2.2.1++[ha]),gJ.2.2.2.2)))).2.1,((gJ.1,(gJ.2.1,(gJ.2.2.1,((gJ.2.2.2.1++[ha]),gJ.2.2.2.2)))).2.2.1,((gJ.1,(gJ.2.1,(gJ.2.2.1,((gJ.2.2.2.1++[ha]),gJ.2.2.2.2)))).2.2.2.1,(((gJ.1,(gJ.2.1,(gJ.2.2.1,((gJ.2.2.2.1++[ha]),gJ.2.2.2.2)))).2.2.2.2.1++[jJ]),(gJ.1,(gJ.2.1,(gJ.2.2.1,((gJ.2.2.2.1++[ha]),gJ.2.2.2.2)))).2.2.2.2.2))))),()) else
 some (jj,gJ,())) fun(qY,asm,_)=>some (.inl (bN ha,qY,asm,())) else some (.inr (jj,gJ,()))) (0,hI,Io,())).bind fun(zp,tc,_)=>(di ((tc.2.2.1).length+([aS tc.2.2.2.1]).length)).bind fun _=>some (.inl (bN S5,zp,(tc.1,(tc.2.1,((tc.2.2.1++[aS tc.2.2.2.1]),tc.2.2.2))),())) else some (.inr (hI,Io,()))) (0,((0:Int),((0:Int),([],([],([],()))))),(U0,(X4,([0],(([]:bx),(([]:bx),()))))),())).bind fun(_,asn,_)=>some (asn,())
def LX:fV->Option gP:=fun(fc,_)=>(loop (σ:=b8) (ρ:=sq) (fun(ht,_)=>bif decide (ht<aS fc) then(bf fc ht).bind fun gO=>(AH (gO,())).bind fun(bw,_)=>bif !bw then some (.inr (.inr (false,()))) else some (.inl (bN ht,())) else some (.inr (.inl ()))) (0,())).bind fun q=>match q with
 |.inl _=>(some (true,()))
 |.inr r=>some r
def vT:pN->Option b8:=fun(b0,_)=>Option.bind (α:=Unit⊕b8) (bif decide (b0.1<0)==false then bif decide (b0.1>200)==false then bif decide (b0.2.1<0)==false then bif decide (b0.2.1>200)==false then bif decide (aS b0.2.2.2.1>10000) then some (.inr (6,())) else some (.inl ()) else some (.inr (6,())) else some (.inr (6,())) else some (.inr (6,())) else some (.inr (6,()))) fun q=>match q with
 |.inl _=>(Option.bind (α:=Unit⊕b8) (bif (aS b0.2.2.2.2.1 !=aS b0.2.2.2.1)==false then bif (aS b0.2.2.1 !=bN b0.2.1)==false then(bf b0.2.2.1 0).bind fun dU=>bif (dU !=0)==false then(bf b0.2.2.1 b0.2.1).bind fun gO=>bif gO !=aS b0.2.2.2.1 then some (.inr (1,())) else some (.inl ()) else some (.inr (1,())) else some (.inr (1,())) else some (.inr (1,()))) fun q=>match q with
 |.inl _=>((loop (σ:=b8) (ρ:=sr) (fun(pZ,_)=>bif decide (pZ<b0.2.1) then(bf b0.2.2.1 pZ).bind fun eH=>(bf b0.2.2.1 (bN pZ)).bind fun ep=>bif decide (eH>ep) then some (.inr (.inr (1,()))) else some (.inl (bN pZ,())) else some (.inr (.inl ()))) (0,())).bind fun q=>match q with
 |.inl _=>((loop (σ:=b8) (ρ:=sr) (fun(jF,_)=>bif decide (jF<b0.2.1) then((bf b0.2.2.1 jF).bind fun hJ=>(loop (σ:=b8) (ρ:=(Unit⊕(b8⊕sr))) (fun(BA,_)=>(bf b0.2.2.1 (bN jF)).bind fun gN=>bif decide (BA<gN) then(Option.bind (α:=Unit⊕(b8⊕(Unit⊕(b8⊕sr)))) ((bf b0.2.2.2.1 BA).bind fun hA=>bif decide (hA<0)==false then(bf b0.2.2.2.1 BA).bind fun dd=>bif decide (dd>=b0.1)==false then(bf b0.2.2.1 jF).bind fun h7=>bif decide (BA>h7)==true then(bf b0.2.2.2.1 BA).bind fun xw=>(bf b0.2.2.2.1 (aQ (BA-1))).bind fun Cw=>bif decide (xw<=Cw) then some (.inr (.inr (.inr (.inr (.inr (1,())))))) else some (.inl ()) else some (.inl ()) else some (.inr (.inr (.inr (.inr (.inr (1,())))))) else some (.inr (.inr (.inr (.inr (.inr (1,()))))))) fun q=>match q with
 |.inl _=>(some (.inl (bN BA,())))
 |.inr r=>some r) else some (.inr (.inl ()))) (hJ,())).bind fun q=>match q with
 |.inl _=>(some (.inl (bN jF,())))
 |.inr r=>some r) else some (.inr (.inl ()))) (0,())).bind fun q=>match q with
 |.inl _=>((LX (b0.2.2.2.2.1,())).bind fun(qU,_)=>bif !qU then some (4,()) else some (0,()))
 |.inr r=>some r)
 |.inr r=>some r)
 |.inr r=>some r)
 |.inr r=>some r
def x9:(cW×Int×Int×Unit)->Option b8:=fun(b0,ht,hP,_)=>Option.bind (α:=Unit⊕b8) ((vT (b0,())).bind fun(bw,_)=>bif (bw !=0)==false then bif decide (hP<0)==false then bif decide (hP>=b0.2.1) then some (.inr (0,())) else some (.inl ()) else some (.inr (0,())) else some (.inr (0,()))) fun q=>match q with
 |.inl _=>((bf b0.2.2.1 hP).bind fun eH=>(loop (σ:=b8) (ρ:=sr) (fun(qL,_)=>(bf b0.2.2.1 (bN hP)).bind fun ga=>bif decide (qL<ga) then(bf b0.2.2.2.1 qL).bind fun hJ=>bif hJ==ht then(bf b0.2.2.2.2.1 qL).bind fun dj=>some (.inr (.inr (dj,()))) else some (.inl (bN qL,())) else some (.inr (.inl ()))) (eH,())).bind fun q=>match q with
 |.inl _=>(some (0,()))
 |.inr r=>some r)
 |.inr r=>some r
def GA:(cW×Int×Int×Unit)->Option gP:=fun(b0,ht,hP,_)=>Option.bind (α:=Unit⊕gP) (bif decide (ht<0)==false then bif decide (ht>=b0.1)==false then bif decide (hP<0)==false then bif decide (hP>=b0.2.1) then some (.inr (false,())) else some (.inl ()) else some (.inr (false,())) else some (.inr (false,())) else some (.inr (false,()))) fun q=>match q with
 |.inl _=>((bf b0.2.2.1 hP).bind fun e0=>(loop (σ:=b8) (ρ:=sq) (fun(lh,_)=>(bf b0.2.2.1 (bN hP)).bind fun ep=>bif decide (lh<ep) then(bf b0.2.2.2.1 lh).bind fun ga=>bif ga==ht then some (.inr (.inr (true,()))) else some (.inl (bN lh,())) else some (.inr (.inl ()))) (e0,())).bind fun q=>match q with
 |.inl _=>(some (false,()))
 |.inr r=>some r)
 |.inr r=>some r
def LA:(bx×Int×Int×Unit)->Option pN:=fun(oB,c5,E5,_)=>(x7 (E5,3,())).bind fun(bw,_)=>(Gf (oB,c5,c5,bw,())).bind fun(bV,_)=>(loop (σ:=(Int×cW×cW×cW×Unit)) (ρ:=(cW×cW×Unit)) (fun(mh,hf,an3,abK,_)=>bif decide (mh<c5) then(loop (σ:=(Int×cW×cW×cW×Unit)) (ρ:=(cW×cW×cW×Unit)) (fun(jD,jK,DG,gu,_)=>bif decide (jD<c5) then Option.bind (α:=(cW×cW×cW×Unit)) (bif jD==mh then(Gu (1,())).bind fun(jJ,_)=>(loop (σ:=(Int×cW×cW×cW×oS×Unit)) (ρ:=(cW×cW×cW×oS×Unit)) (fun(Bz,Cf,MH,tc,xb,_)=>bif decide (Bz<c5) then Option.bind (α:=(cW×cW×cW×oS×Unit)) (bif Bz !=jD then(x9 (MH,(if Bz>jD then Bz else jD),(if Bz<jD then Bz else jD),())).bind fun(I3,_)=>(x8 (I3,())).bind fun(pq,_)=>(LM (pq,())).bind fun(EP,_)=>(di (xb.length+([EP]).length)).bind fun _=>some (Cf,MH,tc,(xb++[EP]),()) else some (Cf,MH,tc,xb,())) fun(aye,anZ,aso,zr,_)=>
 some (.inl (bN Bz,aye,anZ,aso,zr,())) else some (.inr (Cf,MH,tc,xb,()))) (0,jK,DG,gu,[jJ],())).bind fun(EV,MI,g3,EW,_)=>(di ((g3.2.2.2.1).length+([jD]).length)).bind fun _=>(Gw (EW,())).bind fun(uW,_)=>(Gx (uW,2,())).bind fun(OG,_)=>(di (((g3.1,(g3.2.1,(g3.2.2.1,((g3.2.2.2.1++[jD]),g3.2.2.2.2)))).2.2.2.2.1).length+([OG]).length)).bind fun _=>some (EV,MI,((g3.1,(g3.2.1,(g3.2.2.1,((g3.2.2.2.1++[jD]),g3.2.2.2.2)))).1,((g3.1,(g3.2.1,(g3.2.2.1,((g3.2.2.2.1++[jD]),g3.2.2.2.2)))).2.1,((g3.1,(g3.2.1,(g3.2.2.1,((g3.2.2.2.1++[jD]),g3.2.2.2.2)))).2.2.1,((g3.1,(g3.2.1,(g3.2.2.1,((g3.2.2.2.1++[jD]),g3.2.2.2.2)))).2.2.2.1,(((g3.1,(g3.2.1,(g3.2.2.1,((g3.2.2.2.1++[jD]),g3.2.2.2.2)))).2.2.2.2.1++[OG]),(g3.1,(g3.2.1,(g3.2.2.1,((g3.2.2.2.1++[jD]),g3.2.2.2.2)))).2.2.2.2.2))))),()) else(GA (DG,jD,mh,())).bind fun(UM,_)=>bif UM then(di ((gu.2.2.2.1).length+([jD]).length)).bind fun _=>(x9 (DG,jD,mh,())).bind fun(adK,_)=>
 (di (((gu.1,(gu.2.1,(gu.2.2.1,((gu.2.2.2.1++[jD]),gu.2.2.2.2)))).2.2.2.2.1).length+([adK]).length)).bind fun _=>some (jK,DG,((gu.1,(gu.2.1,(gu.2.2.1,((gu.2.2.2.1++[jD]),gu.2.2.2.2)))).1,((gu.1,(gu.2.1,(gu.2.2.1,((gu.2.2.2.1++[jD]),gu.2.2.2.2)))).2.1,((gu.1,(gu.2.1,(gu.2.2.1,((gu.2.2.2.1++[jD]),gu.2.2.2.2)))).2.2.1,((gu.1,(gu.2.1,(gu.2.2.1,((gu.2.2.2.1++[jD]),gu.2.2.2.2)))).2.2.2.1,(((gu.1,(gu.2.1,(gu.2.2.1,((gu.2.2.2.1++[jD]),gu.2.2.2.2)))).2.2.2.2.1++[adK]),(gu.1,(gu.2.1,(gu.2.2.1,((gu.2.2.2.1++[jD]),gu.2.2.2.2)))).2.2.2.2.2))))),()) else some (jK,DG,gu,())) fun(Vb,an0,asr,_)=>some (.inl (bN jD,Vb,an0,asr,())) else some (.inr (jK,DG,gu,()))) (0,hf,an3,abK,())).bind fun(OR,MK,wO,_)=>(di ((wO.2.2.1).length+([aS wO.2.2.2.1]).length)).bind fun _=>some (.inl (bN mh,OR,MK,(wO.1,(wO.2.1,((wO.2.2.1++[aS wO.2.2.2.1]),wO.2.2.2))),())) else some (.inr (hf,abK,()))) (0,((0:Int),((0:Int),([],([],([],()))))),bV,(c5,(c5,([0],(([]:bx),(([]:bx),()))))),())).bind fun(_,ass,_)=>
 some (ass,())
def Gg:ro->Option fV:=fun(oB,c5,_)=>(loop (σ:=ro) (ρ:=fV) (fun(lQ,dK,_)=>bif decide (dK<c5) then(Gi (oB,aQ (700+dK),())).bind fun(bV,_)=>(d6 IntKind.u64 bV 1).bind fun ep=>(x7 (aQ ep,bN dK,())).bind fun(cV,_)=>((some (0)).bind fun yO=>(jh cV).bind fun yP=>(jG yO yP lQ.length).map fun _=>(yO,yP)).bind fun m0=>(di (([]:bx).length+((lQ.take m0.2).drop m0.1).length)).bind fun _=>(di (([]++((lQ.take m0.2).drop m0.1)).length+([dK]).length)).bind fun _=>((jh cV).bind fun H1=>(some lQ.length).bind fun H2=>(jG H1 H2 lQ.length).map fun _=>(H1,H2)).bind fun Ow=>(di ((([]++((lQ.take m0.2).drop m0.1))++[dK]).length+((lQ.take Ow.2).drop Ow.1).length)).bind fun _=>some (.inl (((([]++((lQ.take m0.2).drop m0.1))++[dK])++((lQ.take Ow.2).drop Ow.1)),bN dK,())) else some (.inr (lQ,()))) ([],0,())).bind fun(p6,_)=>some (p6,())
def LG:(bx×Int×Int×Bool×Unit)->Option (cW×bx×Unit):=fun(oB,c5,E5,QF,_)=>(x7 (c5,6,())).bind fun(bV,_)=>(bif QF then(LA (oB,bV,E5,())).bind fun(cq,_)=>(Gg (oB,bV,())).bind fun(cV,_)=>some (cq,cV,()) else(Gf (oB,bV,bV,E5,())).bind fun(ev,_)=>(Gg (oB,bV,())).bind fun(eQ,_)=>some (ev,eQ,()))
def Ma:ro->Option gP:=fun(fc,c5,_)=>(bif aS fc !=c5 then some (false,()) else((fJ c5 c5).bind fun po=>(loop (σ:=(Int×nq×Unit)) (ρ:=sq) (fun(dK,E0,_)=>bif decide (dK<c5) then(Option.bind (α:=(nq×Unit)⊕((Int×nq×Unit)⊕sq)) (Option.bind (α:=(nq×Unit)⊕((nq×Unit)⊕((Int×nq×Unit)⊕sq))) ((bf fc dK).bind fun ep=>bif decide (ep<0)==false then(bf fc dK).bind fun ga=>bif decide (ga>=c5)==false then(bf fc dK).bind fun hJ=>rd E0 hJ fun hA=>bif hA then some (.inr (.inr (.inr (.inr (false,()))))) else some (.inl (E0,())) else some (.inr (.inr (.inr (.inr (false,()))))) else some (.inr (.inr (.inr (.inr (false,())))))) fun q=>match q with
 |.inl (Jk,_)=>((bf fc dK).bind fun h7=>wr Jk h7 true fun CA=>some (.inl (CA,())))
 |.inr r=>some r) fun q=>match q with
 |.inl (Ve,_)=>(some (.inl (bN dK,Ve,())))
 |.inr r=>some r) else some (.inr (.inl ()))) (0,List.replicate po false,())).bind fun q=>match q with
 |.inl _=>(some (true,()))
 |.inr r=>some r))
def Mb:(cW×bx×Unit)->Option b8:=fun(ba,h4,_)=>(vT (ba,())).bind fun(a5,_)=>(bif a5 !=0 then some (a5,()) else bif ba.1 !=ba.2.1 then some (5,()) else(Ma (h4,ba.1,())).bind fun(bw,_)=>bif !bw then some (90,()) else some (0,()))
def Gz:pN->Option l4:=fun(b0,_)=>(vT (b0,())).bind fun(jJ,_)=>(bif jJ !=0 then some ([],()) else(loop (σ:=vB) (ρ:=l4) (fun(Ef,tj,_)=>bif decide (Ef<b0.2.1) then(bf b0.2.2.1 Ef).bind fun m9=>(loop (σ:=vB) (ρ:=l4) (fun(NL,uS,_)=>(bf b0.2.2.1 (bN Ef)).bind fun Fc=>bif decide (NL<Fc) then(bf b0.2.2.2.1 NL).bind fun q3=>(bf b0.2.2.2.2.1 NL).bind fun j7=>(di (uS.length+([(q3,(Ef,(j7,())))]).length)).bind fun _=>some (.inl (bN NL,(uS++[(q3,(Ef,(j7,())))]),())) else some (.inr (uS,()))) (m9,tj,())).bind fun(Uq,_)=>some (.inl (bN Ef,Uq,())) else some (.inr (tj,()))) (0,[],())).bind fun(avU,_)=>some (avU,()))
def LZ:PH->Option pN:=fun(zm,vK,Ek,_)=>(fJ (aQ (zm*vK)) (aQ (zm*vK))).bind fun p2=>(loop (σ:=(Int×cW×cW×bx×Unit)) (ρ:=(cW×cW×bx×Unit)) (fun(wx,hI,Io,XM,_)=>bif decide (wx<aS Ek) then(bf Ek wx).bind fun dj=>(bf Ek wx).bind fun gN=>wr XM (aQ (aQ (dj.2.1*zm)+gN.1)) (bN wx) fun tI=>some (.inl (bN wx,hI,Io,tI,())) else some (.inr (hI,Io,XM,()))) (0,((0:Int),((0:Int),([],([],([],()))))),(zm,(vK,([0],(([]:bx),(([]:bx),()))))),List.replicate p2 (0:Int),())).bind fun(u2,asl,alc,_)=>(loop (σ:=(Int×cW×cW×bx×Unit)) (ρ:=(cW×cW×Unit)) (fun(S3,u3,abH,ald,_)=>bif decide (S3<vK) then(loop (σ:=(Int×cW×cW×bx×Unit)) (ρ:=(cW×cW×bx×Unit)) (fun(s5,Cg,f0,KE,_)=>bif decide (s5<zm) then Option.bind (α:=(cW×cW×bx×Unit)) (rd KE (aQ (aQ (S3*zm)+s5)) fun q4=>bif decide (q4>0) then(di ((f0.2.2.2.1).length+([s5]).length)).bind fun _=>(bf Ek (aQ (q4-1))).bind fun sf=>
 (di (((f0.1,(f0.2.1,(f0.2.2.1,((f0.2.2.2.1++[s5]),f0.2.2.2.2)))).2.2.2.2.1).length+([sf.2.2.1]).length)).bind fun _=>some (Cg,((f0.1,(f0.2.1,(f0.2.2.1,((f0.2.2.2.1++[s5]),f0.2.2.2.2)))).1,((f0.1,(f0.2.1,(f0.2.2.1,((f0.2.2.2.1++[s5]),f0.2.2.2.2)))).2.1,((f0.1,(f0.2.1,(f0.2.2.1,((f0.2.2.2.1++[s5]),f0.2.2.2.2)))).2.2.1,((f0.1,(f0.2.1,(f0.2.2.1,((f0.2.2.2.1++[s5]),f0.2.2.2.2)))).2.2.2.1,(((f0.1,(f0.2.1,(f0.2.2.1,((f0.2.2.2.1++[s5]),f0.2.2.2.2)))).2.2.2.2.1++[sf.2.2.1]),(f0.1,(f0.2.1,(f0.2.2.1,((f0.2.2.2.1++[s5]),f0.2.2.2.2)))).2.2.2.2.2))))),KE,()) else some (Cg,f0,KE,())) fun(nV,asp,ale,_)=>some (.inl (bN s5,nV,asp,ale,())) else some (.inr (Cg,f0,KE,()))) (0,u3,abH,ald,())).bind fun(qZ,BJ,alf,_)=>(di ((BJ.2.2.1).length+([aS BJ.2.2.2.1]).length)).bind fun _=>some (.inl (bN S3,qZ,(BJ.1,(BJ.2.1,((BJ.2.2.1++[aS BJ.2.2.2.1]),BJ.2.2.2))),alf,())) else some (.inr (u3,abH,()))) (0,u2,asl,alc,())).bind fun(_,asq,_)=>
 some (asq,())
def LY:pN->Option (cW×Int×Unit):=fun(b0,_)=>(vT (b0,())).bind fun(bw,_)=>(bif bw !=0 then some (((0:Int),((0:Int),(([]:bx),(([]:bx),(([]:bx),()))))),bw,()) else(Gz (b0,())).bind fun(bV,_)=>(loop (σ:=(Int×cW×nr×Unit)) (ρ:=(cW×nr×Unit)) (fun(qL,hf,jI,_)=>bif decide (qL<aS bV) then Option.bind (α:=(cW×nr×Unit)) ((bf bV qL).bind fun dj=>(bf bV qL).bind fun gN=>bif decide (dj.1>=gN.2.1) then(bf bV qL).bind fun hA=>(di (jI.length+([hA]).length)).bind fun _=>some (hf,(jI++[hA]),()) else some (hf,jI,())) fun(pv,p5,_)=>some (.inl (bN qL,pv,p5,())) else some (.inr (hf,jI,()))) (0,((0:Int),((0:Int),([],([],([],()))))),[],())).bind fun(_,IS,_)=>(LZ (b0.1,b0.2.1,IS,())).bind fun(qU,_)=>some (qU,0,()))
def L2:pN->Option ((List bx×Unit)×Int×Unit):=fun(b0,_)=>(vT (b0,())).bind fun(bo,_)=>(bif bo !=0 then some ((([]:List bx),()),bo,()) else bif b0.1 !=b0.2.1 then some ((([]:List bx),()),5,()) else(GF (b0.1,())).bind fun(a5,_)=>(Gz (b0,())).bind fun(bw,_)=>(loop (σ:=(Int×(List bx×Unit)×List nq×Unit)) (ρ:=((List bx×Unit)×List nq×Unit)) (fun(lh,hI,Jv,_)=>bif decide (lh<aS bw) then(bf bw lh).bind fun hJ=>(cH Jv.length hJ.1).bind fun kW=>(bf bw lh).bind fun hA=>((cb Jv kW fun GM=>some GM).bind fun QK=>cH QK.length hA.2.1).bind fun rQ=>(cb Jv kW fun AP=>(cb AP rQ fun _=>some (AP.set rQ true)).map fun CB=>Jv.set kW CB).bind fun xy=>some (.inl (bN lh,hI,xy,())) else some (.inr (hI,Jv,()))) (0,([],()),a5,())).bind fun(_,ay2,_)=>(GB (ay2,())).bind fun(pq,_)=>some (pq,0,()))
def L9:(cW×bx×Unit)->Option ((List bx×Unit)×Unit):=fun(ba,h4,_)=>(LY (ba,())).bind fun(a5,_,_)=>(L2 (a5,())).bind fun(bV,_,_)=>(GC (bV,h4,())).bind fun(cV,_,_)=>some (cV,())
def L8:(cW×bx×Int×Int×Unit)->Option gF:=fun(ba,h4,eL,pZ,_)=>(bf h4 eL).bind fun eH=>(bf h4 pZ).bind fun ep=>(x9 (ba,(if ep>eH then ep else eH),(if ep<eH then ep else eH),())).bind fun(cV,_)=>(x8 (cV,())).bind fun(ev,_)=>some (ev,())
def GI:qp->Option gF:=fun(ba,b1,_)=>(x8 (ba,())).bind fun(a5,_)=>(x8 (b1,())).bind fun(bw,_)=>(LO (a5,bw,())).bind fun(bV,_)=>some (bV,())
def GJ:gF->Option b8:=fun(hn,_)=>(LW (hn,0,())).bind fun(bo,_)=>some (bo,())
def L6:b8->Option gP:=fun(hY,_)=>(bif (hY==0)==false then some ((hY==9223372036854775808),()) else some (true,()))
def L7:Aa->Option b8:=fun(ba,b1,_)=>(LV (ba,b1,0,())).bind fun(a5,_)=>some (a5,())
def ya:(cW×bx×Unit)->Option Ab:=fun(ba,h4,_)=>(Mb (ba,h4,())).bind fun(adH,_)=>(bif adH !=0 then some ((([]:bx),(([]:bx),(([]:bx),(([]:bx),())))),0,adH,()) else((L9 (ba,h4,())).bind fun(awO,_)=>(L5 (awO,())).bind fun(adI,_,_)=>(fJ ba.1 ba.1).bind fun atc=>(loop (σ:=(Int×fU×List bx×Unit)) (ρ:=(fU×List bx×Unit)) (fun(S4,aew,abn,_)=>bif decide (S4<ba.1) then(fJ ba.1 ba.1).bind fun atd=>wr abn S4 (List.replicate atd (0:Int)) fun aAy=>some (.inl (bN S4,aew,aAy,())) else some (.inr (aew,abn,()))) (0,([],([],([],([],())))),List.replicate atc [],())).bind fun(ayf,art,_)=>(di (([]:bx).length+h4.length)).bind fun _=>(loop (σ:=CZ) (ρ:=((fU×fU×Unit)⊕Ab)) (fun(rP,aex,aru,YN,_)=>bif decide (rP<ba.1) then((loop (σ:=CZ) (ρ:=PI) (fun(P9,aey,abo,YO,_)=>(bf adI rP).bind fun aAh=>bif decide (P9<aS aAh) then(Option.bind (α:=(fU×List bx×fU×Unit)⊕(CZ⊕PI)) (
 (bf adI rP).bind fun aAi=>(bf aAi P9).bind fun tG=>(L8 (ba,h4,tG,rP,())).bind fun(awP,_)=>(loop (σ:=(Int×fU×List bx×fU×oS×Unit)) (ρ:=(fU×List bx×fU×oS×Unit)) (fun(wN,Jj,nO,GZ,Ch,_)=>bif decide (wN<rP) then(cH nO.length wN).bind fun HS=>((cb nO HS fun QM=>some QM).bind fun QN=>cH QN.length tG).bind fun S8=>(cb nO HS fun QO=>cb QO S8 fun QP=>some QP).bind fun VU=>(cH nO.length wN).bind fun HT=>((cb nO HT fun QQ=>some QQ).bind fun QR=>cH QR.length rP).bind fun S9=>(cb nO HT fun QS=>cb QS S9 fun QT=>some QT).bind fun VV=>(GI (VU,VV,())).bind fun(UL,_)=>(Gv (UL,())).bind fun(I6,_)=>(di (Ch.length+([I6]).length)).bind fun _=>some (.inl (bN wN,Jj,nO,GZ,(Ch++[I6]),())) else some (.inr (Jj,nO,GZ,Ch,()))) (0,aey,abo,YO,[awP],())).bind fun(U9,El,Rh,ayg,_)=>(Gw (ayg,())).bind fun(UN,_)=>
 Option.bind (α:=CZ⊕((fU×List bx×fU×Unit)⊕(CZ⊕PI))) (bif tG==rP then(GJ (UN,())).bind fun(adJ,_)=>Option.bind (α:=(Bool×fU×List bx×fU×Unit)) ((LR (UN,())).bind fun(awQ,_)=>bif decide (awQ<=0)==false then(L6 (adJ,())).bind fun(awR,_)=>some (awR,U9,El,Rh,()) else some (true,U9,El,Rh,())) fun(ayh,ayi,arv,anB,_)=>bif ayh then some (.inr (.inr (.inr (.inr (.inr (.inr ((([]:bx),(([]:bx),(([]:bx),(([]:bx),())))),rP,231,()))))))) else some (.inl (adJ,ayi,arv,anB,())) else(cH El.length rP).bind fun aa3=>((cb El aa3 fun amb=>some amb).bind fun amc=>cH amc.length rP).bind fun aq4=>(cb El aa3 fun amd=>cb amd aq4 fun ame=>some ame).bind fun aAj=>(x8 (aAj,())).bind fun(awS,_)=>(L7 (UN,awS,())).bind fun(awT,_)=>some (.inl (awT,U9,El,Rh,()))) fun q=>match q with
 |.inl (Pk,ayj,NR,jV,_)=>((AH (Pk,())).bind fun(awU,_)=>bif !awU then some (.inr (.inr (.inr (.inr (.inr ((([]:bx),(([]:bx),(([]:bx),(([]:bx),())))),0,233,())))))) else(cH NR.length rP).bind fun Ta=>((cb NR Ta fun amf=>some amf).bind fun amg=>cH amg.length tG).bind fun aa5=>(cb NR Ta fun Yq=>(cb Yq aa5 fun _=>some (Yq.set aa5 Pk)).map fun aAC=>NR.set Ta aAC).bind fun aAD=>(di ((jV.2.2.1).length+([tG]).length)).bind fun _=>(di (((jV.1,(jV.2.1,((jV.2.2.1++[tG]),jV.2.2.2))).2.2.2.1).length+([Pk]).length)).bind fun _=>some (.inl (ayj,aAD,((jV.1,(jV.2.1,((jV.2.2.1++[tG]),jV.2.2.2))).1,((jV.1,(jV.2.1,((jV.2.2.1++[tG]),jV.2.2.2))).2.1,((jV.1,(jV.2.1,((jV.2.2.1++[tG]),jV.2.2.2))).2.2.1,(((jV.1,(jV.2.1,((jV.2.2.1++[tG]),jV.2.2.2))).2.2.2.1++[Pk]),(jV.1,(jV.2.1,((jV.2.2.1++[tG]),jV.2.2.2))).2.2.2.2)))),())))
 |.inr r=>some r) fun q=>match q with
 |.inl (ayk,arw,anC,_)=>(some (.inl (bN P9,ayk,arw,anC,())))
 |.inr r=>some r) else some (.inr (.inl (aey,abo,YO,())))) (0,aex,aru,YN,())).bind fun q=>match q with
 |.inl (ayl,arx,DC,_)=>((di ((DC.2.1).length+([aS DC.2.2.1]).length)).bind fun _=>some (.inl (bN rP,ayl,arx,(DC.1,((DC.2.1++[aS DC.2.2.1]),DC.2.2)),())))
 |.inr r=>some r) else some (.inr (.inl (aex,YN,())))) (0,ayf,art,(([]++h4),([0],(([]:bx),(([]:bx),())))),())).bind fun q=>match q with
 |.inl (_,anD,_)=>(some (anD,ba.1,0,()))
 |.inr r=>some r))
def Gh:(fU×fU×Unit)->Option gP:=fun(ba,b1,_)=>(AE (ba.1,b1.1,())).bind fun(a5,_)=>(bif a5==true then(AE (ba.2.1,b1.2.1,())).bind fun(bw,_)=>bif bw==true then(AE (ba.2.2.1,b1.2.2.1,())).bind fun(bV,_)=>bif bV==true then(LD (ba.2.2.2.1,b1.2.2.2.1,())).bind fun(cq,_)=>some (cq,()) else some (false,()) else some (false,()) else some (false,()))
def QC:(bx×Int×Int×Bool×bx×Unit)->Option gP:=fun(oB,c5,E5,QF,Up,_)=>(bif decide (aS Up>6) then(Gk ()).bind fun(cq,_)=>some (cq,()) else(LG (oB,c5,E5,QF,())).bind fun(cV,ev,_)=>(ue (cV,ev,())).bind fun(eQ,gx,f8,_)=>(ya (cV,ev,())).bind fun(iK,hH,jJ,_)=>(ue (cV,Up,())).bind fun(qT,qU,rZ,_)=>(ya (cV,Up,())).bind fun(w7,I2,I3,_)=>bif (f8==jJ)==true then bif (gx==hH)==true then(Gh (eQ,iK,())).bind fun(pq,_)=>bif pq==true then bif (rZ==I3)==true then bif (qU==I2)==true then(Gh (qT,w7,())).bind fun(EP,_)=>bif EP==true then(Gk ()).bind fun(I4,_)=>some (I4,()) else some (false,()) else some (false,()) else some (false,()) else some (false,()) else some (false,()) else some (false,()))
end Go.mz
section
namespace Go.Proofs
open Go.RowKit Go.Shelf Go.Sort
attribute [local go_sem] Oper.semAt_some
def Tryz.arE:Go.Shelf.Ren:=⟨fun|20=>275|n=>n,fun|22=>23|3=>3|4=>4|0=>0|n=>n,fun|n=>n⟩
theorem Tryz.abr:Lays2.n20 Tryz.prog Tryz.arE where
 mixed:=by kernel_rfl
 f20:=Tryz.func275.trans (congrArg some (by kernel_rfl))
 t0:=Tryz.underlying0
 a0:=Tryz.isAgg0
 z0:=Tryz.sizeOf0
 v0:=Tryz.zeroValue0
 t3:=Tryz.underlying3
 a3:=Tryz.isAgg3
 z3:=Tryz.sizeOf3
 v3:=Tryz.zeroValue3
 t4:=Tryz.underlying4
 a4:=Tryz.isAgg4
 z4:=Tryz.sizeOf4
 v4:=Tryz.zeroValue4
 t22:=Tryz.underlying23
 a22:=Tryz.isAgg23
 z22:=Tryz.sizeOf23
 v22:=Tryz.zeroValue23
 i3:=by kernel_rfl
namespace Wy
def pB {α:Type} (f:Nat->α) (k:Nat):List α:=(List.range k).map f
theorem afo {α:Type} (f:Nat->α) (k:Nat):pB f (k+1)=pB f k++[f k]:=by simp[pB,re]
theorem azF {α:Type} (f:Nat->α) (k:Nat):(pB f k).length=k:=by simp[pB]
theorem azE (zs:List Int):pB (fun j=>zs[j]?.getD 0) zs.length=zs:=by
 apply List.ext_getElem
 ·simp[pB]
 ·intro i J R;simp[pB,R]
set_option maxRecDepth 100000 in
set_option maxHeartbeats 2000000 in
theorem azN (F:Fence) (n:Nat) (eF:F.fn 290) (jB:F.round=none) (ag:1<=n) (l hT p3 b off len cap:Nat) (zs:List Int) (wq:len*8<=140737488351232) (aa:b<p3) (de J6:List Int->World->Prop) (RT:∀pre x W,de pre W->pre.length<len->YieldAt F (n-1) Tryz.prog l #[.int .i64 x] W fun e gE=>
  (e=.returned (.bool true)/\de (pre++[x]) gE/\Below p3 W gE)\/(e=.returned (.bool false)/\J6 (pre++[x]) gE))
 (W:World) (sP:W.cell? ⟨hT,0,none⟩=some (.slice (some ⟨b,off,none⟩) len cap)) (hc:∀j,j<len->W.cell? ⟨b,off+j,none⟩=some (.int .i64 (zs[j]?.getD 0))) (aV:de [] W):
 CallsIn F n Tryz.prog 290 #[.func (.yield l) #[] #[],.pointer (some ⟨hT,0,none⟩)] W fun e gE=>(∃v,e=.returned v)/\((∃aW,aW=pB (fun j=>zs[j]?.getD 0) len/\de aW gE)\/(∃pre,(∃k,k<=len/\pre=pB (fun j=>zs[j]?.getD 0) k)/\J6 pre gE)):=by
 refine callsIn_of_wp Tryz.func290 rfl eF ?_ jB;simp only[Tryz.ntmps290,xM,kJ,vu,Nat.reduceAdd,Nat.reduceSub,CJ,CK,CT,CQ,hk,mA]
 gi_wp2
 gi_loopw [7] (fun i wr=>∃k:Nat,k<=len/\i=.int .i64 k/\de (pB (fun j=>zs[j]?.getD 0) k) wr/\Below p3 W wr) (fun i _=>len-(intOf i).toNat)
 case atStart=>exact⟨0,eX _,rfl,aV,Below.refl _ _⟩
 case round=>
  obtain⟨k,ae,rfl,MQ,qG⟩:=hrel;have aoY:k<len->wr.cell? ⟨b,off+k,none⟩=some (.int .i64 (zs[k]?.getD 0)):=fun h=>(qG.cell (p:=⟨b,off+k,none⟩) aa).trans (hc k h);by_cases ca:k<len
  ·obtain⟨fn,tmps,assign,body,aB,aq⟩:=RT _ (zs[k]?.getD 0) wr MQ (by rw[azF];exact ca);have aBi:=aoY ca
   gi_wp2
   refine aq.mono ?_;rintro e aAX (⟨rfl,aor,Hm⟩|⟨rfl,aos⟩)
   ·gi_wp2
    go_roundw
    case rel=>exact⟨k+1,by omega,by simp,by rw[afo];exact aor,qG.trans Hm⟩
    case measure=>simp[intOf];omega
   ·gi_wp2
    refine bodyPost_ret (results_none rfl _ _ _) rfl ?_;exact⟨⟨_,rfl⟩,.inr ⟨_,⟨k+1,by omega,(afo _ _).symm⟩,aos⟩⟩
  ·obtain rfl:k=len:=by omega
   gi_wp2
   go_end0
   exact⟨⟨_,rfl⟩,.inl ⟨_,rfl,MQ⟩⟩
theorem azG (zs:List Int) {k:Nat} (ae:k<=zs.length):pB (fun j=>zs[j]?.getD 0) k=zs.take k:=by
 apply List.ext_getElem
 ·simp[pB,ae]
 ·intro i J R;have:i<zs.length:=(by simp[pB] at J;omega);simp[pB,this]
def tM (p3:Nat) (W:World) (ls:Value) (zs:List Int):Prop:=
 (∃a cap,ls=.slice a 0 cap/\zs=[])\/∃b off cap,ls=.slice (some ⟨b,off,none⟩) zs.length cap/\b<p3/\∀j,j<zs.length->W.cell? ⟨b,off+j,none⟩=some (.int .i64 (zs[j]?.getD 0))
theorem tM.below {p3:Nat} {A B:World} (h:Below p3 A B) {ls:Value} {zs:List Int}:tM p3 A ls zs->tM p3 B ls zs
 |.inl e=>.inl e
 |.inr ⟨b,off,cap,e,aa,hc⟩=>.inr ⟨b,off,cap,e,aa,fun j ao=>(h.cell (p:=⟨b,off+j,none⟩) aa).trans (hc j ao)⟩
set_option maxRecDepth 100000 in
set_option maxHeartbeats 1000000 in
theorem azO (F:Fence) (n:Nat) (eF:F.fn 290) (jB:F.round=none) (l hT:Nat) (a:Option Addr) (cap:Nat) (de:List Int->World->Prop) (W:World) (sP:W.cell? ⟨hT,0,none⟩=some (.slice a 0 cap)) (aV:de [] W):CallsIn F n Tryz.prog 290 #[.func (.yield l) #[] #[],.pointer (some ⟨hT,0,none⟩)] W fun e gE=>(∃v,e=.returned v)/\de [] gE:=by
 refine callsIn_of_wp Tryz.func290 rfl eF ?_ jB;simp only[Tryz.ntmps290,xM,kJ,vu,Nat.reduceAdd,Nat.reduceSub,CJ,CK,CT,CQ,hk,mA]
 gi_wp2
 gi_loopw [7] (fun i wr=>i=.int .i64 0/\de [] wr) (fun _ _=>0)
 case atStart=>exact⟨rfl,aV⟩
 case round=>
  obtain⟨rfl,MQ⟩:=hrel
  gi_wp2
  go_end0
  exact⟨⟨_,rfl⟩,MQ⟩
set_option maxHeartbeats 1000000 in
theorem azP (F:Fence) (n:Nat) (aY:F.fn 277) (jB:F.round=none) (a:Option Addr) (len cap:Nat) (w:World):CallsIn F n Tryz.prog 277 #[.slice a len cap] w fun e w'=>e=.returned (.func (.func 290) #[] #[.pointer (some ⟨w.heap.size,0,none⟩)])/\w'=w.alloc (.cells #[.slice a len cap] 23):=by
 refine callsIn_of_wp Tryz.func277 rfl aY ?_ jB;simp only[Tryz.ntmps277,xM,kJ,vu,Nat.reduceAdd,Nat.reduceSub,CJ,CK,CT,CQ,hk,mA]
 gi_wp2
 go_ret
 exact⟨rfl,rfl⟩
theorem azQ (F:Fence) (n:Nat) (eF:F.fn 290) (jB:F.round=none) (ag:1<=n) (hT p3:Nat) (ls:Value) (zs:List Int) (wq:zs.length*8<=140737488351232) (w:World) (sP:hT<w.heap.size) (apT:p3<=w.heap.size) (hc:w.cell? ⟨hT,0,none⟩=some ls) (cU:tM p3 w ls zs):SeqStopsK F n Tryz.prog 290 #[.pointer (some ⟨hT,0,none⟩)] (fun x:Int=>#[Value.int .i64 x]) (Below p3) (fun aW=>aW=zs) (fun pre=>pre<+:zs) zs.length w:=fun l de J6 W k5 _ _ RT aV=>by
 have rE:=(k5.cell (p:=⟨hT,0,none⟩) sP).trans hc;rcases cU.below (k5.mono apT) with⟨a,cap,rfl,rfl⟩|⟨b,off,cap,rfl,aa,sU⟩
 ·exact(azO F n eF jB l hT a cap de W rE aV).mono fun e gE ⟨aE,ao⟩=>⟨aE,.inl ⟨_,rfl,ao⟩⟩
 ·refine(azN F n eF jB ag l hT p3 b off zs.length cap zs wq aa de J6 RT W rE sU aV).mono ?_;rintro e gE ⟨aE,⟨aW,rfl,ao⟩|⟨pre,⟨k,ae,rfl⟩,ao⟩⟩
  ·exact⟨aE,.inl ⟨_,azE zs,ao⟩⟩
  ·exact⟨aE,.inr ⟨_,by rw[azG zs ae];exact List.take_prefix _ _,ao⟩⟩
theorem aqS:(Tryz.prog.info? 3).map (fun i=>(i.zero,i.size,i.bytes))=some (some (.int .i64 0),1,8):=by kernel_rfl
set_option maxRecDepth 100000 in
set_option maxHeartbeats 2000000 in
theorem aki (F:Fence) (n:Nat) (ac:F.fn 299) (aY:F.fn 290) (jB:F.round=none) (ag:3<=n) (hT:Nat) (ls:Value) (zs:List Int) (wq:zs.length*8<=140737488351232) (w:World) (sP:hT<w.heap.size) (hc:w.cell? ⟨hT,0,none⟩=some ls) (cU:tM w.heap.size w ls zs):CallsIn F n Tryz.prog 299 #[.slice none 0 0,.func (.func 290) #[] #[.pointer (some ⟨hT,0,none⟩)]] w fun e gE=>∃v,e=.returned v/\gE.ownsRow w.heap.size 3 1 v zs.length (zs.map (Value.int .i64))/\(v=.slice none 0 0↔zs=[])/\Below w.heap.size w gE:=by
 have J:1<=n:=(by omega);obtain⟨i0,hi,aqK,HF,SQ⟩:=info_parts aqS;refine callsIn_of_wp_marks Tryz.func299 rfl ac ?_ jB;simp only[Tryz.ntmps299,xM,kJ,vu,Nat.reduceAdd,Nat.reduceSub,CJ,CK,CT,CQ,hk,mA]
 gi_wp2
 have PX:=Boxed.new w 23 (.slice none 0 0);have kR:Below w.heap.size w (w.alloc (.cells #[.slice none 0 0] 23)):=(Below.refl _ w).alloc (bU _) _;refine wpIn_rangeFunc_ownG jB J (gf:=290) (lb:=#[.pointer (some ⟨hT,0,none⟩)]) rfl aY (enters_of Tryz.func290 (by kernel_rfl) rfl) (azQ F (n-1) aY jB (by omega) hT w.heap.size ls zs wq _ (by simp;omega) (by simp) ((kR.cell (p:=⟨hT,0,none⟩) sP).trans hc) (cU.below kR)) belowK_t (belowK_b (by simp)) (Below.refl _ _) (fun _=>rfl) (fun pre W=>(∃v,Boxed W w.heap.size 23 v/\W.ownsRow w.heap.size 3 1 v pre.length (pre.map (Value.int .i64))/\(v=.slice none 0 0↔pre=[]))/\Below w.heap.size w W) (fun _ _ _=>False) (OwnFrom.and (Own.from (holdsRow_own w.heap.size w.heap.size 23 3 1 (fun pre=>pre.length) (fun pre=>pre.map (Value.int .i64)) (fun pre v=>v=.slice none 0 0↔pre=[])) _) (ownFrom_below (bU _) (by simp))) (fun _ _ _ _ _ hs _ _=>hs) ⟨⟨_,PX,World.ownsRow_nil _ _ _ _,by simp⟩,kR⟩ (fun x=>{tmps:=#[.slice none 0 0,.func (.func 290) #[] #[.pointer (some ⟨hT,0,none⟩)],.pointer (some ⟨w.heap.size,0,none⟩),undef,.slice none 0 0,.int .i64 x,.func (.func 290) #[] #[.pointer (some ⟨hT,0,none⟩)],.int .i64 x,undef,undef,undef,undef,undef],defers:=[]}) ?assign ?body ?done ?stop
 case assign=>
  intro l x W K cA
  gi_wp2
  exact cA
 case body=>
  rintro l pre x W ⟨⟨v,hv,jC,qF⟩,dZ⟩ ca;have hc:=hv.cell;have d2:zs.length<=maxLen:=(by simp only[maxLen];omega);have Hc:zs.length*8<=140737488355328:=by omega
  gi_wp2_with (gi_at_builtin;refine wpListIn_append_own _ rfl _ _ 23 rfl w.heap.size 3 i0 (.int .i64 0) 1 8 Tryz.underlying23 hi aqK HF SQ rfl (by decide) _ _ _ rfl (jC.alloc _) ⟨W.heap.size,0,none⟩ 1 1 [.int .i64 x] rfl rfl (cell_one_new _ _ _) (by simp[Value.oneCell']) (by omega) (by omega) (by have:=dZ.size;simp;omega) ?_;intro ew ve aae apm _;obtain⟨eC,fW,rfl⟩:=ownsRow_succ aae;obtain⟨Nn,ld,fm,gI,je⟩:=hv.appended (by decide) jC dZ.size (bU _) aae apm;have aBg:=Nn.cell;have ky:=Nn.frozen)
  exact⟨gI.from _,je,⟨_,ld,by simpa using fm,by simp⟩,dZ.trans je⟩
 case done=>
  rintro D aW W sR rfl ⟨⟨v,hv,jC,qF⟩,dZ⟩ cA;have hc:=hv.cell
  gi_wp2
  refine⟨by simp,.inl ⟨_,_,rfl,run_takeDeferred cA,?_⟩⟩;exact⟨_,results_tmp rfl _ _ _,v,rfl,ownsRow_putObj jC _ cA rfl,qF,dZ.trans (belowK_b (w:=w) (bU _) W D _ _ (by simp at sR;omega) cA rfl rfl)⟩
 case stop=>
  rintro D c pre W _ _ h _;exact h.elim
set_option maxHeartbeats 1000000 in
theorem alw (F:Fence) (n:Nat) (pS:F.fn 288) (ac:F.fn 299) (aY:F.fn 290) (jB:F.round=none) (ag:4<=n) (hT:Nat) (ls:Value) (zs:List Int) (wq:zs.length*8<=140737488351232) (w:World) (sP:hT<w.heap.size) (hc:w.cell? ⟨hT,0,none⟩=some ls) (cU:tM w.heap.size w ls zs):CallsIn F n Tryz.prog 288 #[.func (.func 290) #[] #[.pointer (some ⟨hT,0,none⟩)]] w fun e gE=>∃v,e=.returned v/\gE.ownsRow w.heap.size 3 1 v zs.length (zs.map (Value.int .i64))/\(v=.slice none 0 0↔zs=[])/\Below w.heap.size w gE:=by
 have J:1<=n:=(by omega);refine callsIn_of_wp Tryz.func288 rfl pS ?_ jB;simp only[Tryz.ntmps288,xM,kJ,vu,Nat.reduceAdd,Nat.reduceSub,CJ,CK,CT,CQ,hk,mA]
 gi_wp2_with (gi_at_call 299;refine(aki F (n-1) ac aY jB (by omega) hT ls zs wq _ sP hc cU).mono ?_;rintro e w' ⟨v,rfl,jC,qF,aa⟩)
 go_ret
 exact⟨v,rfl,jC,qF,aa⟩
open Go.mz
theorem axx {M:dE->Nat->Prop} {w:World} {base:Nat} {v:Value} {zs:List Int} (h:w.ownsRow base 3 1 v zs.length (zs.map (Value.int .i64))):∃f,br M w (.osl (.int .i64)) [v] zs f/\f.Nodup/\∀b∈f,base<=b/\b<w.heap.size:=by
 rcases h.2 with⟨rfl,aV⟩|⟨g,cap,Qq,rfl,aa,aG,J,R,ac,aL⟩
 ·obtain rfl:=qi aV;exact⟨[],⟨none,0,rfl,.inl ⟨rfl,rfl,rfl,rfl⟩⟩,by simp,by simp⟩
 ·rw[Nat.mul_one] at ac aL;have pU:∀j,j<cap->w.cell? ⟨g,j,none⟩=some (Qq[j]?.getD undef)/\w.frozen? ⟨g,j,none⟩=false:=fun j ao=>by
   constructor<;>simp[World.cell?,World.frozen?,aG,show j<Qq.size by omega]
  refine⟨[g],⟨some ⟨g,0,none⟩,cap,rfl,.inr ⟨g,0,List.replicate zs.length [],rfl,by simp,by simp,J,fun j _ ao=>?_,fun i x f ab aH=>?_⟩⟩,by simp,fun b cZ=>?_⟩
  ·obtain⟨aN,aM⟩:=pU j (by simpa[au.size] using ao);exact⟨by rw[aN];rfl,aM⟩
  ·have hi:i<zs.length:=(fu.1 ab).1;obtain rfl:f=[]:=by
    rw[qj] at aH;split at aH<;>simp_all
   refine⟨[.int .i64 x],rfl,fun j v ao=>?_,rfl,rfl⟩;cases j with
   |succ j=>simp at ao
   |zero=>
    simp only[lX,cS] at ao;subst ao;simp only[au.size,Nat.mul_one,kN,ql];rw[(pU i (by omega)).1];have:(Qq.toList.take zs.length)[i]?=(zs.map (Value.int .i64))[i]?:=(by rw[aL]);rw[pH hi,CI,gB,ab] at this;rw[this];rfl
  ·simp only[fh] at cZ;subst cZ;exact⟨aa,(q7.1 aG).1⟩
theorem apW {M:dE->Nat->Prop} {w:World} {v:Value} {zs:List Int} {f:List Nat} (h:br M w (.osl (.int .i64)) [v] zs f):(∃a cap,v=.slice a 0 cap/\zs=[])\/∃b o cap,v=.slice (some ⟨b,o,none⟩) zs.length cap/\zs.length<=cap/\Holds (Value.int .i64) w b o zs.toArray/\f=[b]:=by
 obtain⟨a,cap,hv,h⟩:=h;simp only[hL,and_true] at hv;subst hv;rcases h with⟨rfl,rfl,rfl,rfl⟩|⟨b,o,dR,rfl,rfl,J,R,ac,aL⟩
 ·exact .inl ⟨none,0,rfl,rfl⟩
 ·right;have ou:dR.flatten=[]:=by
   rw[List.flatten_eq_nil_iff];intro l ai;obtain⟨i,hi,rfl⟩:=jO.1 ai;obtain⟨ds,_,_,hr⟩:=aL i (zs[i]'(by omega)) dR[i] (by simp) (by simp)
   exact hr.1
  refine⟨b,o,cap,rfl,R,fun j ao=>?_,by rw[ou]⟩;have ov:j<zs.length:=(by simpa using ao);obtain⟨ds,cK,cG,_,c9⟩:=aL j zs[j] (dR[j]'(by omega)) (by simp) (by simp)
  subst c9;have aN:=cG 0 _ rfl;simp only[au.size,Nat.mul_one,ql] at aN;exact⟨by rw[aN];simp[ov],(ac (o+j) (by omega) (by simp only[au.size];omega)).2⟩
def PE (E:eV) (sort:List Int->Option (List Int)):Prop:=∀zs aW,sort zs=some aW->xB E 289 [.m ⟨.osl (.int .i64),zs⟩ aW] []
set_option maxRecDepth 100000 in
set_option maxHeartbeats 2000000 in
theorem ayH (F:Fence) (gn:∀f,F.fn f) (jB:F.round=none) (Bf:∀(m:Nat) (f:FuncId) (args:Array Value) (w:World) (cd:Ending->World->Prop),Calls Tryz.prog f args w cd->CallsIn F m Tryz.prog f args w cd) {E:eV} (g7:E.P=Tryz.prog) {sort:List Int->Option (List Int)} (hs:PE E sort) (n:Nat) (ag:5<=n) (hT:Nat) (ls:Value) (zs aW:List Int) (g2:sort zs=some aW) (wq:zs.length*8<=140737488351232) (w:World) (nB:nf E (fun b=>b<w.heap.size) w) (sP:hT<w.heap.size) (hc:w.cell? ⟨hT,0,none⟩=some ls) (cU:tM w.heap.size w ls zs):CallsIn F n Tryz.prog 276 #[.func (.func 290) #[] #[.pointer (some ⟨hT,0,none⟩)]] w fun e gE=>∃v f M,e=.returned v/\br M gE (.osl (.int .i64)) [v] aW f/\(∀b∈f,w.heap.size<=b)/\Below w.heap.size w gE:=by
 have J:1<=n:=(by omega);have kU:=gn 288;have im:=gn 289;refine callsIn_of_wp Tryz.func276 rfl (gn _) ?_ jB;simp only[Tryz.ntmps276,xM,kJ,vu,Nat.reduceAdd,Nat.reduceSub,CJ,CK,CT,CQ,hk,mA]
 gi_wp2_with (first
  |(
   gi_at_call 288;refine(alw F (n-1) (gn _) (gn _) (gn _) jB (by omega) hT ls zs wq _ sP hc cU).mono ?_;rintro e W ⟨v,rfl,jC,qF,aa⟩
   obtain⟨f,hr,eA,aH⟩:=axx (M:=bP (fun _=>False) (fun _=>False)) jC;have pT:=hs zs aW g2 W (fun b=>b<w.heap.size) (fun _=>False) [v] [f] (fun b h=>by rcases h with h|h;exact jn h aa.size;exact h.elim) ⟨⟨[v],rfl,hr⟩,trivial⟩ (by simpa using eA) (fun b aa=>⟨Nat.not_lt.2 (aH b (by simpa using aa)).1,fun h=>h,(aH b (by simpa using aa)).2⟩) True.intro (nB.mono (fun _ h=>h) fun b h=>aa.block b h);rw[g7] at pT;have pT:=Bf (n-1) _ _ _ _ pT;clear jC qF)
  |(gi_at_call 289;refine pT.mono ?_;rintro e ajU ⟨I',gs,h2,fa,rfl,aw⟩))
 have aG:∃g,gs=[g]:=by
  have:=aw.args
  match gs,this with
  |[g],_=>exact⟨g,rfl⟩
  |[],h=>exact h.elim
  |_::_::_,h=>exact h.2.elim
 obtain⟨g,rfl⟩:=aG;obtain⟨cs,aA,fm⟩:=aw.args.1;have qC:=fm.len;obtain⟨c,rfl⟩:=CR.1 qC;have aA:v=c:=aA;subst aA;have Hx:fa=[]:=by
  have:=aw.res
  match fa,this with
  |[],_=>rfl
  |_::_,h=>exact h.elim
 subst Hx
 go_ret
 refine⟨v,g,_,rfl,fm,fun b cZ=>?_,?_⟩
 ·have:=(aw.Xu b (by simp[cZ])).2.2.2;rcases this with h|h
  ·exact d8 aa.size h
  ·exact(aH b (by simpa using h)).1
 ·exact⟨aw.os.trans aa.os,aw.tape.trans aa.tape,aw.output.trans aa.output,d8 aa.size aw.size,fun k ae=>(aw.heap k (jn ae aa.size) (fun h=>by have:=(aH k (by simpa using h)).1;omega)).trans (aa.block k ae)⟩
theorem alB {M:dE->Nat->Prop} {W:World} {B:Nat} {v:Value} {aW:List Int} {f:List Nat} (hr:br M W (.osl (.int .i64)) [v] aW f) (aH:∀b∈f,B<=b) (ai:aW.length<=1000000):Calls Tryz.prog 275 #[v] W (fun e w'=>∃a cap,e=.returned (.slice a (Lib.compact aW).length cap)/\Below B W w'):=by
 rcases apW hr with⟨a,cap,rfl,rfl⟩|⟨b,o,cap,rfl,sT,aoo,rfl⟩
 ·refine(Any.slices_Compact_int_empty Tryz.abr a cap W).mono ?_;rintro e w' ⟨rfl,rfl⟩;exact⟨a,cap,rfl,Below.refl _ _⟩
 ·refine(Any.slices_Compact_int Tryz.abr b o cap aW W aoo (by omega) sT).mono ?_;rintro e w' ⟨rfl,q,rfl⟩;refine⟨_,cap,rfl,rfl,rfl,rfl,by simp[putRow,mapBlock,Sort.ahead],fun k ae=>?_⟩;have:=aH b (by simp);simp[putRow,mapBlock,Sort.ahead,xA,show b≠k by omega]
set_option maxRecDepth 100000 in
set_option maxHeartbeats 2000000 in
theorem azn (F:Fence) (gn:∀f,F.fn f) (jB:F.round=none) (Bf:∀(m:Nat) (f:FuncId) (args:Array Value) (w:World) (cd:Ending->World->Prop),Calls Tryz.prog f args w cd->CallsIn F m Tryz.prog f args w cd) {E:eV} (g7:E.P=Tryz.prog) {sort:List Int->Option (List Int)} (hs:PE E sort) (n:Nat) (ag:7<=n) (a:Option Addr) (len cap:Nat) (zs aW:List Int) (g2:sort zs=some aW) (d2:zs.length=len) (wq:zs.length<=1000000) (aB:aW.length<=1000000) (w:World) (nB:nf E (fun b=>b<w.heap.size) w) (cU:tM w.heap.size w (.slice a len cap) zs):CallsIn F n Tryz.prog 249 #[.slice a len cap] w fun e gE=>e=.returned (.bool (decide ((Lib.compact aW).length<zs.length)))/\Below w.heap.size w gE:=by
 have J:1<=n:=(by omega);have kU:=gn 277;have im:=gn 276;have aBw:=gn 275;generalize mO:(Lib.compact aW).length=aA3;refine callsIn_of_wp Tryz.func249 rfl (gn _) ?_ jB;simp only[Tryz.ntmps249,xM,kJ,vu,Nat.reduceAdd,Nat.reduceSub,CJ,CK,CT,CQ,hk,mA];have PX:=Boxed.new w 23 (.slice a len cap);have kR:Below w.heap.size w (w.alloc (.cells #[.slice a len cap] 23)):=(Below.refl _ w).alloc (bU _) _;have aoq:tM (w.alloc (.cells #[.slice a len cap] 23)).heap.size (w.alloc (.cells #[.slice a len cap] 23)) (.slice a len cap) zs:=by
  rcases cU.below kR with h|⟨b,off,fW,e,aa,hc⟩
  ·exact .inl h
  ·exact .inr ⟨b,off,fW,e,by simp;omega,hc⟩
 have aaq:=ayH F gn jB Bf g7 hs (n-1) (by omega) w.heap.size (.slice a len cap) zs aW g2 (by omega) _ (nB.mono (fun b (h:b<w.heap.size)=>jn h kR.size) fun b h=>kR.block b h) (by simp) PX.cell aoq
 gi_wp2_with (first
  |(gi_at_call 277;refine(azP F (n-1) (gn _) jB a len cap w).mono ?_;rintro e w' ⟨rfl,rfl⟩)
  |(gi_at_call 276;refine aaq.mono ?_;rintro e W ⟨v,f,M,rfl,hr,aH,aa⟩;have ZK:=Bf (n-1) _ _ _ _ (alB (B:=w.heap.size) hr (fun b cZ=>by have:=aH b cZ;simp at this;omega) aB);rw[mO] at ZK;have X:Below w.heap.size w W:=kR.trans (aa.mono (by simp));clear hr aH aa aaq)
  |(gi_at_call 275;refine ZK.mono ?_;rintro e ajU ⟨c8,Qb,rfl,je⟩))
 go_ret
 exact⟨by rw[d2];rfl,X.trans je⟩
def azk (sort:List Int->Option (List Int)):bh:=⟨249,[.v (.bM .eN (.int .i64))],[.bool],fun a=>(Jy sort a.1).map fun b=>(b,())⟩
theorem azl {E:eV} (g7:E.P=Tryz.prog) {sort:List Int->Option (List Int)} (hs:PE E sort):bg E (azk sort):=by
 refine⟨fun vs w=>by rw[g7];exact Tryz.call249 vs w,?_⟩;rintro⟨zs,_⟩ b aa;have je:(Jy sort zs).map (fun b=>(b,()))=some b:=aa;obtain⟨ua,k6,rfl⟩:=e1.1 je;clear aa je;unfold Jy at k6;cases J:Nat.ble zs.length 1000000 with
 |false=>rw[J] at k6;cases k6
 |true=>
 rw[J] at k6;obtain⟨aW,g2,k6⟩:=dA.1 k6;cases R:Nat.ble aW.length 1000000 with
 |false=>rw[R] at k6;cases k6
 |true=>
 rw[R] at k6;have aa:decide ((Lib.compact aW).length<zs.length)=ua:=fH k6;subst aa;have J:=fQ J;have R:=fQ R;rintro w I B vs fs Zn rC eA DT _hself;have rC:oV (Fi I B w) [.v ⟨.bM .eN (.int .i64),zs⟩] vs fs:=rC;obtain⟨v,f,rfl,rfl⟩:∃v f,vs=[v]/\fs=[f]:=by
  cases vs with
  |nil=>exact rC.elim
  |cons v vs=>
   cases fs with
   |nil=>exact rC.elim
   |cons f fs=>
    have h:=rC.2;cases vs with
    |nil=>cases fs with
     |nil=>exact⟨v,f,rfl,rfl⟩
     |cons=>exact h.elim
    |cons=>exact h.elim
 obtain⟨⟨rfl,cs,rfl,hr⟩,_⟩:=rC;obtain⟨_,a,cap,rfl,sT,qF,nD⟩:=hr;have cU:tM w.heap.size w (.slice a zs.length cap) zs:=by
  rcases nD with h|⟨b,o,rfl,bF,ab⟩
  ·exact .inl ⟨a,cap,by rw[show zs=[] from h];rfl,h⟩
  ·refine .inr ⟨b,o,cap,rfl,Zn b bF,fun j ao=>?_⟩;obtain⟨ds,cK,cG,_,c9⟩:=ab j zs[j] (by simp[ao]);subst c9;have q:=cG 0 _ rfl;simp only[au.size,Nat.mul_one,ql] at q;rw[q];simp[ao]
 intro nB;have h:=azn Fence.wide (fun _=>trivial) rfl (fun m f args w cd h=>(callsIn_wide (n:=m)).2 h) g7 hs 10 (by omega) a zs.length cap zs aW g2 rfl J R w (nB.mono (fun b h=>Zn b (.inl h)) fun _ _=>rfl) cU;have h:=callsIn_wide.1 h;show Calls E.P 249 #[.slice a zs.length cap] w _;rw[g7];refine h.mono ?_;rintro e w' ⟨rfl,aa⟩;refine⟨I,[[]],[[]],[.bool _],rfl,⟨⟨rfl,trivial⟩,⟨⟨[.bool _],rfl,rfl,rfl⟩,trivial⟩,by simp,by simp,fun _ h=>h,fun _ h=>.inl h,aa.size,aa.os,aa.tape,aa.output,fun b cZ=>.of_heap (aa.block b cZ),fun b cZ _=>aa.block b cZ⟩⟩
end Wy
end Go.Proofs
end
end
