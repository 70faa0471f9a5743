/-
  Parts of the proof: Fw33, Fw30, Fw25, Fw36, Fw46, Pl1, Fs, Dn20, Dn21, TwS, Dn20b, Dn22, Dn24a, Dn24, Tw24, Ok24: the framework (Fw), pure forms (Dn), plain laws (Pl, Th), calls of functions (Ok).
-/
import Derived.ProofKit
import Derived.Handed
import Derived.KernelRfl
import Derived.Lib.SlicesCompact
import Derived.RangeFuncBox
import Derived.RangeFuncLeaves
import Derived.Shelf.Abstract
import Derived.WalkKit
import Derived.OwnWalkIn
import Derived.TacticsInMore
import Derived.LoopNIn
import Derived.LoopIn
import Derived.Maps.AppendAt
import Derived.Shelf.Slices.CompactI
import Derived.Lib.OwnBridge
import Derived.Test.YtkhcdgkdpjahpaaGreatDoorProg
import Derived.Test.YtkhcdgkdpjahpaaGreatDoorB9b9297be

set_option linter.all false
noncomputable section
namespace Go.lP
section
section
variable {ic:gS} {bv:Array Oper} {cu b9:Nat->List Nat}
theorem Gg {aR:Type} {K:ba->Option aR} {r:aR}:∀{l:List Nat} {st:ba},xD ic bv cu b9 l st K=some r->∃t,qk ic bv cu b9 l st t/\K t=some r
 |[],st,h=>⟨st,lh.refl st,h⟩
 |i::l,st,h=>by
  simp only[xD] at h;split at h
  ·cases h
  rename_i o aH;split at h
  ·rename_i aD;obtain⟨e,J,R,ae⟩:=Vx h;obtain⟨t,bu,bE⟩:=Gg ae;exact⟨t,⟨e,⟨o,aH,.inl ⟨by unfold lL;rw[aD],J,R⟩⟩,bu⟩,bE⟩
  ·rename_i j jQ aD;split at h
   case h_2=>cases h
   rename_i fO d te aN;split at h
   case h_3=>cases h
   case h_2=>
    rename_i q ab;cases hs:g3 ic.n ic.pin d with
    |false=>rw[hs] at h;cases h
    |true=>
    rw[hs] at h;obtain⟨t,bu,bE⟩:=Gg h;refine⟨t,⟨DF d,⟨o,aH,.inr ⟨?_,d,aN,hs,rfl⟩⟩,bu⟩,bE⟩;unfold lL;rw[aD];simp only[te,ab]
   rename_i x ab;cases hs:g3 ic.n ic.pin d with
   |false=>rw[hs] at h;cases h
   |true=>
   rw[hs] at h;simp only[cond_true] at h;have same:∀b,x=b->lh ⟨(fO,.val .bool b)::st.g,st.h⟩ st:=fun b aa=>⟨fun k=>by
    show gt ((fO,_)::st.g) k=_;rw[jv];split
    ·rename_i e;rw[<-e,ab,aa]
    ·rfl,fun _=>rfl⟩
   split at h
   ·rename_i aa;obtain rfl:x=jQ:=(by simpa using aa);obtain⟨e,J,R,ae⟩:=Vx h;obtain⟨t,bu,bE⟩:=Gg ae;have bB:iL ic bv cu b9 i ⟨(fO,.val .bool x)::st.g,st.h⟩ e:=by
     refine⟨o,aH,.inl ⟨?_,J,R⟩⟩;unfold lL;rw[aD];simp only[te,(same x rfl).g fO,ab];simp
    exact⟨t,⟨e,bB.seq (same x rfl),bu.seq ((same x rfl).app e)⟩,bE⟩
   ·rename_i aa;have Qj:x=!jQ:=by cases x<;>cases jQ<;>first|rfl|cases aa
    obtain⟨t,bu,bE⟩:=Gg h;refine⟨t,⟨DF d,⟨o,aH,.inr ⟨?_,d,aN,hs,rfl⟩⟩,bu.seq ((same _ Qj).app (DF d))⟩,bE⟩;unfold lL;rw[aD];simp only[te,ab];exact aa
structure nO where
 i:Nat
 d:List Nat
 az:List Nat
 ps:List Nat
 cu:List Nat
 b9:List Nat
def xa:List Nat->List Nat->Bool
 |[],[]=>true
 |a::l,b::r=>Nat.beq a b&&xa l r
 |_,_=>false
theorem s2:∀{l r:List Nat},xa l r=true->l=r
 |[],[],_=>rfl
 |a::l,b::r,h=>by simp only[xa,bM] at h;rw[eZ h.1,s2 h.2]
 |[],_::_,h=>by cases h
 |_::_,[],h=>by cases h
def tS (bv:Array Oper) (cu b9:Nat->List Nat) (r:nO):Bool:=match bv[r.i]? with
 |some o=>xa (dl o) r.d&&xa (o.looksAt bv) r.az&&xa (tK bv r.i) r.ps&&xa (cu r.i) r.cu&&xa (b9 r.i) r.b9
 |none=>false
def N5 (x i:nO):Bool:=w5 x.d i.az&&w5 x.d i.d&&w5 i.d x.az&&w6 i.b9 (x.d++(x.cu++x.b9))&&w6 x.b9 (i.d++i.cu)&&(uZ x.d x.cu x.b9 i.b9&&uZ i.d i.cu i.b9 x.b9)
theorem ahD {x i:nO} (ab:tS bv cu b9 x=true) (hi:tS bv cu b9 i=true) (h:N5 x i=true):zd bv cu b9 x.i i.i=true:=by
 unfold tS at ab hi;split at ab
 case h_2=>cases ab
 rename_i x5 F3;split at hi
 case h_2=>cases hi
 rename_i x1 F1;simp only[bM] at ab hi;obtain⟨⟨⟨⟨DN,kq⟩,avd⟩,Nb⟩,acc⟩:=ab;obtain⟨⟨⟨⟨i1,i2⟩,i3⟩,Lv⟩,XO⟩:=hi;unfold N5 at h;rw[<-s2 DN,<-s2 kq,<-s2 Nb,<-s2 acc,<-s2 i1,<-s2 i2,<-s2 Lv,<-s2 XO] at h;simp only[bM] at h;obtain⟨⟨⟨⟨⟨J,R⟩,ae⟩,aI⟩,aX⟩,bI,eO⟩:=h;unfold zd;simp only[F3,F1,aI,aX,bI,eO,Bool.and_true];have J:=w5.ok J;have R:=w5.ok R;have ae:=w5.ok ae;unfold Oper.apart;rw[bM];constructor
 ·cases aN:x5.dst with
  |none=>rfl
  |some d=>
   have ie:=J d (Dc aN);have fc:=R d (Dc aN);simp only[bM,DX];refine⟨?_,?_⟩
   ·rw[<-Bool.not_eq_true,List.contains_iff_mem];exact ie
   ·rw[bne_iff_ne];intro e;exact fc (Dc e)
 ·cases aN:x1.dst with
  |none=>rfl
  |some d=>
   have ie:=ae d (Dc aN);simp only[DX];rw[<-Bool.not_eq_true,List.contains_iff_mem];exact ie
def mG (m n:Nat):Bool:=Nat.beq (Nat.land (Nat.shiftRight m n) 1) 1
def Nz (m n:Nat):Nat:=Nat.lor m (Nat.shiftLeft 1 n)
theorem BQ {m n:Nat}:mG m n=true↔m.testBit n=true:=by
 unfold mG;rw[Nat.testBit_eq_decide_div_mod_eq];show Nat.beq ((m>>>n)&&&1) 1=true↔_;rw[Nat.shiftRight_eq_div_pow,Nat.and_one_is_mod];constructor
 ·intro h;exact decide_eq_true (eZ h)
 ·intro h;rw[of_decide_eq_true h];rfl
theorem UG {a b n:Nat} (h:mG (Nat.lor a b) n=true):mG a n=true\/mG b n=true:=by rw[BQ] at h|-;rw[BQ];have:(a|||b).testBit n=true:=h;rw[Nat.testBit_or] at this;simpa using this
theorem UF {m n k:Nat} (h:mG (Nz m n) k=true):mG m k=true\/k=n:=by
 rcases UG h with h|h
 ·exact .inl h
 ·right;rw[BQ] at h;have:(1<<<n).testBit k=true:=h;rw[Nat.shiftLeft_eq,kP,Io] at this;have:=of_decide_eq_true this;omega
theorem IN {k:Nat} (h:mG 0 k=true):False:=by rw[BQ] at h;simp at h
def Em (tb:List axM):List Nat->Nat
 |[]=>0
 |p::ps=>Nat.lor (Nz ((lP.az tb p).getD 0) p) (Em tb ps)
theorem Ua {tb:List axM}:∀{ps:List Nat} {k:Nat},mG (Em tb ps) k=true->∃p∈ps,k=p\/∃m,lP.az tb p=some m/\mG m k=true
 |[],_,h=>(IN h).elim
 |p::ps,k,h=>by
  rcases UG h with h|h
  ·refine⟨p,by simp,?_⟩;rcases UF h with h|h
   ·cases ah:lP.az tb p with
    |none=>rw[ah] at h;exact(IN h).elim
    |some m=>rw[ah] at h;exact .inr ⟨m,rfl,h⟩
   ·exact .inl h
  ·obtain⟨q,ai,R⟩:=Ua h;exact⟨q,by simp[ai],R⟩
def IW (n:Nat):Nat->List nO->List axM->List nO->Bool
 |_,_,_,[]=>true
 |eB,seen,tb,r::l=>
  r.ps.all (fun p=>mG eB p)&&(seen.all fun x=>mG (Em tb r.ps) x.i||N5 x r)&&!(mG eB r.i)&&Nat.blt r.i n&&IW n (Nz eB r.i) (r::seen) ((r.i,Em tb r.ps)::tb) l
def ma (L:List nO):List Nat:=L.map (·.i)
def za (bv:Array Oper) (cu b9:Nat->List Nat) (L:List nO):Bool:=L.all (tS bv cu b9)&&IW bv.size 0 [] [] L&&((List.range bv.size).all fun i=>dJ i (ma L))&&Nat.ble L.length bv.size
def Ie (bv:Array Oper) (D:Nat->Prop):Prop:=∀k,D k->∀p∈tK bv k,D p
theorem tS.ps {r:nO} (h:tS bv cu b9 r=true):tK bv r.i=r.ps:=by
 unfold tS at h;split at h
 case h_2=>cases h
 simp only[bM] at h;exact s2 h.1.1.2
theorem NZ:∀{l seen:List nO} {eB:Nat} {tb:List axM},IW bv.size eB seen tb l=true->(∀r∈l,tS bv cu b9 r=true)->(∀r∈seen,tS bv cu b9 r=true)->(∀k,mG eB k=true->k∈ma seen)->(∀k∈ma seen,mG eB k=true)->(∀p q,lP.az tb p=some q->∀D,Ie bv D->D p->∀x,mG q x=true->D x)->∀A i B,ma l=A++i::B->(∀p∈tK bv i,p∈ma seen\/p∈A)/\(∀D,Ie bv D->(∀p∈tK bv i,D p)->∀x,(x∈ma seen\/x∈A)->¬D x->zd bv cu b9 x i=true)/\i∉ma seen/\i∉A/\i<bv.size
 |[],_,_,_,h,_,_,_,_,af,A,i,B,ah=>by cases A<;>cases ah
 |r::l,seen,eB,tb,h,hr,hs,ao,mT,af,A,i,B,ah=>by
  simp only[IW,bM,fk,DX] at h;obtain⟨⟨⟨⟨J,R⟩,ae⟩,aI⟩,aX⟩:=h;have P7:=hr r (by simp);have CH:=tS.ps P7;have ae:r.i∉ma seen:=fun ac=>(by rw[mT _ ac] at ae;cases ae);have bx:∀D,Ie bv D->(∀p∈tK bv r.i,D p)->∀x,mG (Em tb r.ps) x=true->D x:=by
   intro D rS ay x ab;obtain⟨p,qE,rfl|⟨m,th,ab⟩⟩:=Ua ab
   ·exact ay _ (CH▸qE)
   ·exact af p m th D rS (ay p (CH▸qE)) x ab
  cases A with
  |nil=>
   cases ah;refine⟨fun p ay=>.inl (ao _ (J p (CH▸ay))),fun D rS ay x ab pJ=>?_,ae,by simp,fw aI⟩;rcases ab with ab|ab
   ·obtain⟨y,aB,rfl⟩:=dj.1 ab;have:=R y aB;rcases hJ _ _▸this with ao|ao
    ·exact absurd (bx D rS ay _ ao) pJ
    ·exact ahD (hs y aB) P7 ao
   ·cases ab
  |cons a A=>
   simp only[ma,eY,mz,hh] at ah;obtain⟨rfl,ah⟩:=ah;obtain⟨bT,bz,cZ,cU,gD⟩:=NZ aX (fun x ab=>hr x (by simp[ab])) (fun x ab=>by
    rcases dV.1 ab with rfl|ab
    ·exact P7
    ·exact hs x ab) (fun k ac=>by
    rcases UF ac with ac|rfl
    ·exact f6 _ (ao k ac)
    ·exact mB ..) (fun k ac=>by
    rw[BQ];show(eB|||(1<<<r.i)).testBit k=true;rw[Nat.testBit_or,hJ];rcases dV.1 ac with rfl|ac
    ·right;rw[Nat.shiftLeft_eq,kP,Io];simp
    ·left;exact BQ.1 (mT k ac)) (fun p q jc D rS ay x ab=>by
    rw[db] at jc;split at jc
    ·rename_i e;cases jc;subst e;exact bx D rS (rS _ ay) x ab
    ·exact af p q jc D rS ay x ab) A i B ah
   refine⟨fun p ay=>?_,fun D rS ay x ab pJ=>bz D rS ay x ?_ pJ,fun ao=>cZ (f6 _ ao),fun ao=>?_,gD⟩
   ·rcases bT p ay with ao|ao
    ·rcases dV.1 ao with rfl|ao
     ·exact .inr (by simp)
     ·exact .inl ao
    ·exact .inr (by simp[ao])
   ·rcases ab with ab|ab
    ·exact .inl (f6 _ ab)
    ·rcases dV.1 ab with rfl|ab
     ·exact .inl (mB ..)
     ·exact .inr ab
   ·rcases dV.1 ao with rfl|ao
    ·exact cZ (mB ..)
    ·exact cU ao
variable {E:eI} {C:dZ}
theorem iL.wp (cf:ic.U E C) {i:Nat} {s:ba} {e:b0} (h:iL ic bv cu b9 i s e) {a:Act} {w:World} (ar:f7 C s a.tmps w) {rm:Exit->Act->World->Prop} {next:Act->World->Prop} (ag:∀b2 w',b2.defers=a.defers->f7 C (e.app s) b2.tmps w'->next b2 w'):wpOp E.P bv rm i next a w:=by
 obtain⟨o,aH,h⟩:=h;obtain⟨I,rt,fp,ev⟩:=id ar;unfold wpOp;simp only[aH];rcases h with⟨hw,J,_⟩|⟨hw,d,aN,hs,rfl⟩
 ·rw[hw.ok ev,if_pos rfl];refine .inl (Vw cf J a w ar _ _ ?_);rintro s' b2 w' ⟨dy,u1,rfl⟩ aN hr;cases u1;exact ag b2 w' aN hr
 ·rw[hw.ok ev,if_neg (by simp),aN];exact ag _ w rfl ⟨I,rt,fp,ev.put (g3.ok cf hs) (.c5 undef)⟩
def left (L:List Nat) (listed:Array Bool):List Nat:=L.filter fun i=>!listed.getD i true
theorem Yr {L:List Nat} {listed:Array Bool} {A B:List Nat} {i:Nat} (h:left L listed=A++i::B) (eS:i∉A) (eP:i∉B) (hi:i<listed.size):left L (listed.setIfInBounds i true)=A++B:=by
 have:left L (listed.setIfInBounds i true)=(left L listed).filter fun j=>!(j==i):=by
  unfold left;rw[List.filter_filter];refine D7 fun j _=>?_;by_cases al:i=j
  ·subst al;have:(listed.setIfInBounds i true).getD i true=true:=(by simp[Array.getD,hi]);rw[this];simp
  ·rw[getD_set_ne true al];have:(j==i)=false:=(by simp;omega);rw[this];simp
 rw[this,h,qg,D8 (by simp)];congr 1
 ·exact qh.2 fun j al=>by simp;rintro rfl;exact eS al
 ·exact qh.2 fun j al=>by simp;rintro rfl;exact eP al
theorem R4 {i p:Nat} {o:Oper} (aH:bv[i]?=some o):p∈tK bv i↔∃e∈o.after,Region.binds .any e=true/\e.on=p:=by
 unfold tK;rw[aH];simp only[dj,hX,Array.mem_toList_iff];constructor
 ·rintro⟨e,⟨J,R⟩,ae⟩;exact⟨e,J,R,ae⟩
 ·rintro⟨e,J,R,ae⟩;exact⟨e,⟨J,R⟩,ae⟩
theorem agj (cf:ic.U E C) {wC:List nO} {L:List Nat} (aks:L=ma wC) (eQ:za bv cu b9 wC=true) {t:ba} {rm:Exit->Act->World->Prop} {ds:List Deferred} (Wy:∀a w,a.defers=ds->f7 C t a.tmps w->rm .normal a w):∀(fuel:Nat) (listed:Array Bool) (a:Act) (w:World) (s:ba),listed.size=bv.size->(left L listed).length<=fuel->Ie bv (fun k=>listed.getD k true=true/\k<bv.size)->qk ic bv cu b9 (left L listed) s t->f7 C s a.tmps w->a.defers=ds->wpAny E.P .any bv rm fuel listed a w:=by
 unfold za at eQ;simp only[bM,fk,jl] at eQ;obtain⟨⟨⟨oa,eQ⟩,fQ⟩,_⟩:=eQ;have HF:=NZ eQ oa (by simp) (fun k ac=>(IN ac).elim) (by simp[ma]) (fun p q h=>by cases h);rw[<-aks] at HF fQ;have CT:∀i,i<bv.size->i∈L:=fun i hi=>eX.1 (fQ i hi);have aj6:∀{listed:Array Bool} {k:Nat},listed.size=bv.size->k<bv.size->listed.getD k true=true->listed.getD k false=true:=(by intro listed k hs ac h;have:k<listed.size:=(by omega);simpa[Array.getD,this] using h);have aaF:∀{listed:Array Bool} {i:Nat},listed.size=bv.size->i∈Region.ready .any bv listed->i<bv.size/\listed.getD i true=false/\∃o,bv[i]?=some o/\∀e∈o.after,Region.binds .any e=true->listed.getD e.on false=true:=(by intro listed i hs hi;obtain⟨J,o,aH,R⟩:=mem_ready.1 hi;exact⟨(qa.1 aH).1,J,o,aH,R⟩);have first:∀{listed:Array Bool} {i:Nat} {b8:List Nat},listed.size=bv.size->left L listed=i::b8->i∈Region.ready .any bv listed:=by
  intro listed i b8 hs ah;have ao:i∈left L listed:=(by rw[ah];simp);have alm:i∈L:=(hX.1 ao).1;have aQ:listed.getD i true=false:=(by simpa using(hX.1 ao).2);obtain⟨A,B,u0⟩:=D6 alm;obtain⟨bT,_,_,cU,gD⟩:=HF A i B u0;obtain⟨o,aH⟩:∃o,bv[i]?=some o:=⟨_,DV gD⟩;refine mem_ready.2 ⟨aQ,o,aH,fun e aE aa=>?_⟩;have ay:e.on∈tK bv i:=(R4 aH).2 ⟨e,aE,aa,rfl⟩;have eS:e.on∈A:=by
   rcases bT _ ay with h|h
   ·cases h
   ·exact h
  have rY:∀x∈A,listed.getD x true=true:=by
   intro x ab;cases oY:listed.getD x true with
   |true=>rfl
   |false=>
    obtain⟨Ni,acm,Wn⟩:=D6 ab;have:left L listed=left Ni listed++x::(left acm listed++left (i::B) listed):=(by show List.filter _ L=_;rw[u0,Wn];simp only[left,qg,mA,oY,ui,mz];rfl);rw[ah] at this;cases zT:left Ni listed with
    |nil=>rw[zT] at this;cases this;exact absurd ab cU
    |cons y r=>
     rw[zT] at this;cases this;have:i∈left Ni listed:=(by rw[zT];simp);exact absurd (by rw[Wn];exact rh _ (hX.1 this).1) cU
  have cg:e.on<bv.size:=(by have:e.on∈L:=(by rw[u0];exact rh _ eS);obtain⟨ack,B',a2⟩:=D6 this;exact(HF ack e.on B' a2).2.2.2.2);exact aj6 hs cg (rY _ eS)
 intro fuel
 induction fuel with
 |zero=>
  intro listed a w s hs dR PB eA ar aN;have pI:left L listed=[]:=No.1 (by omega);rw[pI] at eA;refine⟨?_,Wy a w aN (ar.seq eA)⟩;cases hr:Region.ready .any bv listed with
  |nil=>rfl
  |cons i r=>
   obtain⟨J,R,_⟩:=aaF hs (i:=i) (by rw[hr];simp);have:i∈left L listed:=hX.2 ⟨CT i J,by rw[R];rfl⟩;rw[pI] at this;cases this
 |succ fuel aT=>
  intro listed a w s hs dR PB eA ar aN;constructor
  ·intro hr;cases ah:left L listed with
   |nil=>rw[ah] at eA;exact Wy a w aN (ar.seq eA)
   |cons i b8=>
    have:=first hs ah
    rw[hr] at this;cases this
  ·intro i hi;obtain⟨J,R,o,aH,ae⟩:=aaF hs hi;have ao:i∈left L listed:=hX.2 ⟨CT i J,by rw[R];rfl⟩;obtain⟨A,B,u0⟩:=D6 (CT i J);obtain⟨_,bz,_,cU,_⟩:=HF A i B u0;have W3:i∉B:=by
    intro ao;obtain⟨acq,acr,eP⟩:=D6 ao;have:=(HF (A++i::acq) i acr (by rw[u0,eP];simp)).2.2.2.1;exact this (by simp)
   have Ln:left L listed=left A listed++i::left B listed:=(by show List.filter _ L=_;rw[u0];simp only[left,qg,mA,R];rfl);have akS:∀x∈left A listed,zd bv cu b9 x i=true:=by
    intro x ab;obtain⟨amC,XI⟩:=hX.1 ab;refine bz _ PB (fun p ay=>?_) x (.inr amC) (fun ab=>by rw[ab.1] at XI;cases XI);obtain⟨e,aE,aa,rfl⟩:=(R4 aH).1 ay;have aI:=ae e aE aa;have cg:e.on<listed.size:=by
     cases ch e.on listed.size with
     |inl h=>exact h
     |inr h=>simp[Array.getD,Nat.not_lt.2 h] at aI
    refine⟨?_,by omega⟩;simpa[Array.getD,cg] using aI
   rw[Ln] at eA;obtain⟨e,aE,amc⟩:=qk.front akS eA;refine aE.wp cf ar (fun b2 w' pB ev=>aT _ b2 w' (e.app s) (by simp[hs]) ?_ ?_ ?_ ev (pB.trans aN))
   ·rw[Yr Ln (fun h=>cU (hX.1 h).1) (fun h=>W3 (hX.1 h).1) (by omega)];rw[Ln] at dR;simp at dR|-;omega
   ·intro k ⟨mS,ga⟩ p ay;by_cases oW:i=k
    ·subst oW;obtain⟨e,aE,aa,rfl⟩:=(R4 aH).1 ay;have aI:=ae e aE aa;have cg:e.on<listed.size:=by
      cases ch e.on listed.size with
      |inl h=>exact h
      |inr h=>simp[Array.getD,Nat.not_lt.2 h] at aI
     have aX:=getD_set_true (i:=i) aI;refine⟨?_,by omega⟩;have alE:e.on<(listed.setIfInBounds i true).size:=(by simpa using cg);have aC:∀d,(listed.setIfInBounds i true).getD e.on d=(listed.setIfInBounds i true)[e.on]:=fun d=>(by simp only[Array.getD,alE,dif_pos];rfl);rw[aC] at aX|-;exact aX
    ·rw[getD_set_ne true oW] at mS;obtain⟨aX,bI⟩:=PB k ⟨mS,ga⟩ p ay;refine⟨?_,bI⟩;by_cases P2:i=p
     ·subst P2;rw[R] at aX;cases aX
     ·rw[getD_set_ne true P2];exact aX
   ·rw[Yr Ln (fun h=>cU (hX.1 h).1) (fun h=>W3 (hX.1 h).1) (by omega)];exact amc
theorem c2.draw (alH:E.P.follows .mixedOrders=true) (cf:ic.U E C) {aR:Type} {K:ba->Option aR} {r:aR} {id:Nat} {wC:List nO} {st:ba} {b8:Exit->ba->Prop} (eQ:za bv cu b9 wC=true) (h:xD ic bv cu b9 (ma wC) st K=some r) (cn:∀s,K s=some r->b8 .normal s):c2 E C (.region id bv true) st b8:=by
 obtain⟨t,J,R⟩:=Gg h;intro a w ar aN;refine wp_region_any alH ?_;have fQ:left (ma wC) (Array.replicate bv.size false)=ma wC:=(by refine qh.2 fun i hi=>?_;unfold za at eQ;simp only[bM,fk] at eQ;obtain⟨A,B,u0⟩:=D6 hi;have:=(NZ eQ.1.1.2 eQ.1.1.1 (by simp) (fun k ac=>(IN ac).elim) (by simp[ma]) (fun p q h=>by cases h) A i B u0).2.2.2.2;simp[Array.getD,this]);have eh:(ma wC).length<=bv.size:=(by unfold za at eQ;simp only[bM] at eQ;rw[ma,iI];exact fw eQ.2);refine agj cf rfl eQ (t:=t) (ds:=[]) (fun b2 w' pB ev=>⟨t,cn t R,ev,pB⟩) bv.size _ a _ st (by simp) (by rw[fQ];exact eh) ?_ (by rw[fQ];exact J) ?_ aN
 ·intro k ⟨mS,ga⟩;simp[Array.getD,ga] at mS
 ·obtain⟨I,rt,fp,ar⟩:=ar;exact⟨I,rt,fp,ar.aka (hV.refl w).drew⟩
end
end
section
inductive TC where
 |none
 |x (l:List Nat) (dg:ql)
 |cW (l:List Nat) (dg:ql)
inductive TE where
 |r
 |x (id:Nat) (dg:ql)
 |cW (id:Nat) (dg:ql)
inductive oC where
 |leaf
 |one (a:oC)
 |two (j:TC) (a b:oC)
 |loop (dg:ql) (m:TE) (a:oC)
 |keep (l:List Nat) (a:oC)
 |hN (F:List Nat) (a:oC)
 |draw (L:List nO)
def KM:List nO->Nat->List Nat
 |[],_=>[]
 |r::l,i=>bif Nat.beq r.i i then r.cu else KM l i
def L2:List nO->Nat->List Nat
 |[],_=>[]
 |r::l,i=>bif Nat.beq r.i i then r.b9 else L2 l i
def UM {aR:Type} (id:Nat) (K:Exit->ba->Option aR):Exit->ba->Option aR
 |.exit j,s=>match Nat.beq j id with
  |true=>K .normal s
  |false=>K (.exit j) s
 |e,s=>K e s
def am0 {σ:Type} (dg:ba->Option σ):Exit->ba->Option σ
 |.normal,s=>dg s
 |_,_=>none
def am1 {σ aR:Type} (dg:ba->Option σ) (K:Exit->ba->Option aR):Exit->ba->Option (σ⊕aR)
 |.normal,s=>(dg s).map .inl
 |e,s=>(K e s).map .inr
def HA {aR:Type} (y:ba->Option aR) (K:Exit->ba->Option aR):Exit->ba->Option aR
 |.normal,s=>y s
 |e,s=>K e s
def anZ {σ aR:Type} (dg:ba->Option σ) (K:Exit->ba->Option aR):Exit->ba->Option (σ⊕aR)
 |.normal,s=>(dg s).map .inl
 |e,s=>(K e s).map .inr
def YA {σ τ:Type} (dg:ba->Option σ) (id:Nat) (xs:ba->Option τ):Exit->ba->Option (σ⊕τ)
 |.normal,s=>(dg s).map .inl
 |.exit j,s=>match Nat.beq j id with
  |true=>(xs s).map .inr
  |false=>none
 |_,_=>none
def YB {σ τ aR:Type} (dg:ba->Option σ) (id:Nat) (xs:ba->Option τ) (K:Exit->ba->Option aR):Exit->ba->Option (σ⊕(τ⊕aR))
 |.normal,s=>(dg s).map .inl
 |.exit j,s=>match Nat.beq j id with
  |true=>(xs s).map fun q=>.inr (.inl q)
  |false=>(K (.exit j) s).map fun q=>.inr (.inr q)
 |e,s=>(K e s).map fun q=>.inr (.inr q)
def h7:gS->oC->Code->ba->(aR:Type)->(Exit->ba->Option aR)->Option aR
 |ic,.leaf,c,st,_,K=>match c with
  |.skip=>K .normal st
  |.exit id=>K (.exit id) st
  |.ret=>K .ret st
  |.region _ bv false=>l9 ic bv (List.range bv.size) st (K .normal)
  |_=>none
 |ic,.one a,c,st,aR,K=>match c with
  |.block id x=>h7 ic a x st aR (UM id K)
  |_=>none
 |ic,.two j a b,c,st,aR,K=>match c with
  |.seq x y=>match j with
   |.none=>h7 ic a x st aR (HA (fun s=>h7 ic b y s aR K) K)
   |.x l dg=>match xF st.g l with
    |some r=>(h7 {ic with pin:=l++ic.pin,kg:=r++ic.kg} a x st dg.den (am0 (proj dg))).bind fun q=>h7 ic b y (zD {ic with pin:=l++ic.pin,kg:=r++ic.kg} dg q) aR K
    |none=>none
   |.cW l dg=>match xF st.g l with
    |some r=>(h7 {ic with pin:=l++ic.pin,kg:=r++ic.kg} a x st (dg.den⊕aR) (am1 (proj dg) K)).bind fun
     |.inl q=>h7 ic b y (zD {ic with pin:=l++ic.pin,kg:=r++ic.kg} dg q) aR K
     |.inr r=>some r
    |none=>none
  |.cond t x y=>match bj st.g t with
   |.val .bool v=>match v with
    |true=>h7 ic a x st aR K
    |false=>h7 ic b y st aR K
   |_=>none
  |_=>none
 |ic,.loop dg m a,c,st,aR,K=>match c with
  |.loop x=>(proj dg st).bind fun ka=>match m with
   |.r=>(loop (fun s=>h7 ic a x (zD ic dg s) (dg.den⊕aR) (anZ (proj dg) K)) ka).bind some
   |.x id wl=>(loop (fun s=>h7 ic a x (zD ic dg s) (dg.den⊕wl.den) (YA (proj dg) id (proj wl))) ka).bind fun q=>K (.exit id) (zD ic wl q)
   |.cW id wl=>(loop (fun s=>h7 ic a x (zD ic dg s) (dg.den⊕(wl.den⊕aR)) (YB (proj dg) id (proj wl) K)) ka).bind fun
    |.inl q=>K (.exit id) (zD ic wl q)
    |.inr r=>some r
  |_=>none
 |ic,.draw L,c,st,_,K=>match c with
  |.region _ bv true=>bif za bv (KM L) (L2 L) L then xD ic bv (KM L) (L2 L) (ma L) st (K .normal) else none
  |_=>none
 |ic,.hN F a,c,st,aR,K=>bif pu st.h F then h7 ic a c (xe F st) aR K else none
 |ic,.keep l a,c,st,aR,K=>match xF st.g l with
  |some r=>h7 {ic with pin:=l++ic.pin,kg:=r++ic.kg} a c st aR K
  |none=>none
section
variable {E:eI} {C:dZ} {ic:gS} {aR:Type}
theorem c2.post {kg:List (Nat×aw)} (ac:sI C kg) {c:Code} {st:ba} {b8:Exit->ba->Prop} (h:c2 E C c st (fun e s=>b8 e s\/∃(s' AZ:ba),b8 e s'/\s'=⟨kg++AZ.g,AZ.h⟩/\rA AZ.g s/\rB AZ.h s/\oe AZ.g AZ.h=true)):c2 E C c st b8:=
 fun a w ar aN=>wp_mono (h a w ar aN) (fun _ _ _ ⟨s,J,aX,bI⟩=>by
  rcases J with J|⟨s',AZ,J,rfl,R,ae,aI⟩
  ·exact⟨s,J,aX,bI⟩
  ·exact⟨_,J,(aX.EA R ae aI).kg ac,bI⟩)
theorem od:∀{an:oC} {C:dZ} {ic:gS} {c:Code} {st:ba} {aR:Type} {K:Exit->ba->Option aR} {r:aR} {Q:Exit->ba->Prop},ic.U E C->h7 ic an c st aR K=some r->(∀e s,K e s=some r->Q e s)->c2 E C c st Q
 |.leaf,C,ic,c,st,aR,K,r,Q,cf,h,cn=>by
  simp only[h7] at h;split at h
  ·exact c2.skip (cn _ _ h)
  ·exact c2.exit (cn _ _ h)
  ·exact c2.ret (cn _ _ h)
  ·exact c2.region (amM cf (fun s hs=>cn _ s hs) h)
  ·cases h
 |.one a,C,ic,c,st,aR,K,r,Q,cf,h,cn=>by
  simp only[h7] at h;split at h
  ·refine c2.block (od cf h ?_);intro e s hs;cases e with
   |exit j=>
    simp only[UM] at hs;simp only[NQ];split at hs
    ·rename_i al;rw[al];exact cn _ _ hs
    ·rename_i al;rw[al];exact cn _ _ hs
   |_=>exact cn _ _ hs
  ·cases h
 |.two j a b,C,ic,c,st,aR,K,r,Q,cf,h,cn=>by
  simp only[h7] at h;split at h
  ·rename_i x y;refine c2.seq ?_;split at h
   ·refine od cf h ?_;intro e s hs;cases e with
    |normal=>exact od cf hs cn
    |_=>exact cn _ _ hs
   ·rename_i l dg;split at h
    case h_2=>cases h
    rename_i r' nA;obtain⟨q,ai,h⟩:=dk.1 h;refine c2.keep cf.2.2.2.2 nA (fun nc J R ae aI aX=>c2.post ae (od (ic:={ic with pin:=l++ic.pin,kg:=r'++ic.kg}) ⟨cf.1,cf.2.1.trans J.symm,by rw[R,<-cf.2.2.1],⟨cf.2.2.2.1.1,aI _ cf.2.2.2.1.2.1,cf.2.2.2.1.2.2.1,aX cf.2.2.2.1.2.2.2.1,cf.2.2.2.1.2.2.2.2⟩,ae⟩ ai ?_));intro e s hs;cases e with
    |normal=>exact .inr ⟨_,_,od cf h cn,rfl,x6 hs⟩
    |_=>cases hs
   ·rename_i l dg;split at h
    case h_2=>cases h
    rename_i r' nA;obtain⟨q,ai,h⟩:=dk.1 h;refine c2.keep cf.2.2.2.2 nA (fun nc J R ae aI aX=>c2.post ae (od (ic:={ic with pin:=l++ic.pin,kg:=r'++ic.kg}) ⟨cf.1,cf.2.1.trans J.symm,by rw[R,<-cf.2.2.1],⟨cf.2.2.2.1.1,aI _ cf.2.2.2.1.2.1,cf.2.2.2.1.2.2.1,aX cf.2.2.2.1.2.2.2.1,cf.2.2.2.1.2.2.2.2⟩,ae⟩ ai ?_));intro e s hs;cases e with
    |normal=>
     obtain⟨gH,hD,fq⟩:=eM.1 hs;cases fq;exact .inr ⟨_,_,od cf h cn,rfl,x6 hD⟩
    |
     _=>
     obtain⟨gH,hD,fq⟩:=eM.1 hs;cases fq;cases h;exact .inl (cn _ _ hD)
  ·rename_i t x y;split at h
   ·rename_i v hv;refine c2.cond hv (fun e=>?_) (fun e=>?_)
    ·subst e;exact od cf h cn
    ·subst e;exact od cf h cn
   ·cases h
  ·cases h
 |.loop dg m a,C,ic,c,st,aR,K,r,Q,cf,h,cn=>by
  simp only[h7] at h;split at h
  case h_2=>cases h
  rename_i x;obtain⟨ka,aU,h⟩:=dk.1 h;obtain⟨g2,eF,vQ⟩:=x6 aU;refine c2.post cf.2.2.2.2 ?_;cases m with
  |r=>
   refine c2.loop (lY dg) h g2 eF vQ ?_;intro s o aF aH;refine c2.kg cf.2.2.2.2 (od cf aF ?_);intro e s' hs;cases e with
   |normal=>
    obtain⟨q,hD,fq⟩:=eM.1 hs;cases fq;exact⟨rfl,x6 hD⟩
   |
    _=>
    obtain⟨q,hD,fq⟩:=eM.1 hs;cases fq;cases aH;exact⟨(fun h=>by cases h),.inl (cn _ _ hD)⟩
  |x id wl=>
   refine c2.loop (lY dg) h g2 eF vQ ?_;intro s o aF aH;refine c2.kg cf.2.2.2.2 (od cf aF ?_);intro e s' hs;cases e with
   |normal=>
    obtain⟨q,hD,fq⟩:=eM.1 hs;cases fq;exact⟨rfl,x6 hD⟩
   |exit j=>
    simp only[YA] at hs;split at hs
    ·rename_i al;obtain rfl:=eZ al;obtain⟨q,hD,fq⟩:=eM.1 hs;cases fq;exact⟨(fun h=>by cases h),.inr ⟨_,_,cn _ _ aH,rfl,x6 hD⟩⟩
    ·cases hs
   |_=>cases hs
  |cW id wl=>
   refine c2.loop (lY dg) h g2 eF vQ ?_;intro s o aF aH;refine c2.kg cf.2.2.2.2 (od cf aF ?_);intro e s' hs;cases e with
   |normal=>
    obtain⟨q,hD,fq⟩:=eM.1 hs;cases fq;exact⟨rfl,x6 hD⟩
   |exit j=>
    simp only[YB] at hs;split at hs
    ·rename_i al;obtain rfl:=eZ al;obtain⟨q,hD,fq⟩:=eM.1 hs;cases fq;exact⟨(fun h=>by cases h),.inr ⟨_,_,cn _ _ aH,rfl,x6 hD⟩⟩
    ·obtain⟨q,hD,fq⟩:=eM.1 hs;cases fq;cases aH;exact⟨(fun h=>by cases h),.inl (cn _ _ hD)⟩
   |
    _=>
    obtain⟨q,hD,fq⟩:=eM.1 hs;cases fq;cases aH;exact⟨(fun h=>by cases h),.inl (cn _ _ hD)⟩
 |.draw L,C,ic,c,st,aR,K,r,Q,cf,h,cn=>by
  simp only[h7] at h;split at h
  case h_2=>cases h
  rename_i id bv;cases aa:za bv (KM L) (L2 L) L with
  |false=>rw[aa] at h;cases h
  |true=>
  rw[aa] at h;exact c2.draw E.mix cf aa h (fun s hs=>cn _ s hs)
 |.hN F a,C,ic,c,st,aR,K,r,Q,cf,h,cn=>by
  simp only[h7] at h;cases aa:pu st.h F with
  |false=>rw[aa] at h;cases h
  |true=>
  rw[aa] at h;intro af9 w ar aN;obtain⟨I,rt,fp,ar⟩:=ar;exact od cf h cn af9 w (ar.freeze (pu.ok aa)) aN
 |.keep l a,C,ic,c,st,aR,K,r,Q,cf,h,cn=>by
  simp only[h7] at h;split at h
  case h_2=>cases h
  rename_i q ai;refine c2.keep cf.2.2.2.2 ai ?_;intro nc J R ae aI aX;exact od (ic:={ic with pin:=l++ic.pin,kg:=q++ic.kg}) ⟨cf.1,cf.2.1.trans J.symm,by rw[R,<-cf.2.2.1],⟨cf.2.2.2.1.1,aI _ cf.2.2.2.1.2.1,cf.2.2.2.1.2.2.1,aX cf.2.2.2.1.2.2.2.1,cf.2.2.2.1.2.2.2.2⟩,ae⟩ h cn
end
end
section
def po:Nat->(ps:List g7)->hb ps->List (Nat×aw)
 |_,[],_=>[]
 |k,.v τ::l,a=>(k,.val τ a.1)::po (k+1) l a.2
 |k,.m _::l,a=>(k,.ref k [])::po (k+1) l a.2
 |k,.o _::l,a=>(k,.ref k [])::po (k+1) l a.2
 |k,.c n τs::l,a=>(k,.dQ n ((jz τs a.1).map fun t=>.val t.1 t.2))::po (k+1) l a.2
 |k,.n::l,a=>(k,.c5 (.slice none 0 0))::po (k+1) l a.2
 |k,.w _::l,a=>(k,.view k [] a.1.2.1 a.1.2.2)::po (k+1) l a.2
 |k,.s _ _::l,a=>po (k+1) l a.2
def pp:Nat->(ps:List g7)->hb ps->List (Nat×a1)
 |_,[],_=>[]
 |k,.v _::l,a=>pp (k+1) l a.2
 |k,.m τ::l,a=>(k,⟨τ,a.1⟩)::pp (k+1) l a.2
 |k,.o τ::l,a=>(k,⟨τ,a.1⟩)::pp (k+1) l a.2
 |k,.c _ _::l,a=>pp (k+1) l a.2
 |k,.n::l,a=>pp (k+1) l a.2
 |k,.w σ::l,a=>(k,⟨.osl σ,a.1.1⟩)::pp (k+1) l a.2
 |k,.s _ _::l,a=>pp (k+1) l a.2
def kQ:Nat->List g7->List Nat
 |_,[]=>[]
 |k,.m _::l=>k::kQ (k+1) l
 |k,.v _::l=>kQ (k+1) l
 |k,.o _::l=>kQ (k+1) l
 |k,.c _ _::l=>kQ (k+1) l
 |k,.n::l=>kQ (k+1) l
 |k,.w _::l=>k::kQ (k+1) l
 |k,.s _ _::l=>kQ (k+1) l
theorem NG {r:Type}:∀{k:Nat} {ps:List g7} {a:hb ps} {b:jA ps r},ki k (fF ps a b)=po k ps a/\kR k (fF ps a b)=pp k ps a/\hz k (fF ps a b)=kQ k ps/\(fF ps a b).length=ps.length
 |k,[],a,b=>⟨rfl,rfl,rfl,rfl⟩
 |k,p::l,a,b=>by
  have aT:=fun a b=>NG (r:=r) (k:=k+1) (ps:=l) (a:=a) (b:=b);cases p
  case m=>
   obtain⟨J,R,ae,aI⟩:=aT a.2 b.2;simp only[fF,ki,kR,hz,po,pp,kQ,kc,J,R,ae,aI,and_self]
  case w=>
   obtain⟨J,R,ae,aI⟩:=aT a.2 b.2;simp only[fF,ki,kR,hz,po,pp,kQ,kc,J,R,ae,aI,and_self]
  all_goals obtain⟨J,R,ae,aI⟩:=aT a.2 b;simp only[fF,ki,kR,hz,po,pp,kQ,kc,J,R,ae,aI,and_self]
def ME (tt:List (TypeId×aq)) (st:ba) (τ:aq):ResultVar->Option (τ.den×List Nat)
 |.tmp r=>match gt st.g r with
  |.val _ x=>(h1 τ x).bind fun y=>some (y,[])
  |.c5 v=>bif rD τ v then(js τ v.cells.toList).bind fun y=>some (y,[]) else none
  |.ref id p=>match az st.h id with
   |some t=>(hO t.1 t.2 p τ).bind fun y=>some (y,[id])
   |none=>none
  |_=>none
 |.cell a T=>match az tt T with
  |some υ=>bif bF υ τ then match gt st.g a with
   |.ref id p=>match az st.h id with
    |some t=>match el t.1 p with
     |some (.optr _)=>(hO t.1 t.2 (p++[.deref]) τ).bind fun y=>some (y,[id])
     |_=>none
    |none=>none
   |_=>none else none
  |none=>none
def MD (tt:List (TypeId×aq)) (st:ba):List ResultVar->(ca:List aq)->Option (nE ca×List Nat)
 |[],[]=>some ((),[])
 |r::rs,τ::ca=>bif τ.e3 then(ME tt st τ r).bind fun y=>(MD tt st rs ca).map fun q=>((y.1,q.1),y.2++q.2) else none
 |_,_=>none
theorem asX {E:eI} {st:ba} {τ:aq} {r:ResultVar} {q:τ.den×List Nat} (h:ME E.tt st τ r=some q):wI E.P st ⟨τ,q.1⟩ r q.2:=by
 cases r with
 |tmp r=>
  simp only[ME] at h;simp only[wI];split at h
  ·rename_i τ' x ab;obtain⟨y,aB,h⟩:=dk.1 h;cases h;rw[ab];exact⟨ll aB,rfl⟩
  ·rename_i v ab;cases hc:rD τ v with
   |false=>rw[hc] at h;cases h
   |true=>
   rw[hc] at h;obtain⟨y,aB,h⟩:=dk.1 h;cases h;rw[ab];exact⟨aB,rD.ok hc,rfl⟩
  ·rename_i id p ab;split at h
   case h_2=>cases h
   rename_i t af;obtain⟨y,aB,h⟩:=dk.1 h;cases h;rw[ab];exact⟨rfl,t,af,jb aB⟩
  ·cases h
 |cell a T=>
  simp only[ME] at h;simp only[wI];split at h
  case h_2=>cases h
  rename_i υ bd;cases ah:bF υ τ with
  |false=>rw[ah] at h;cases h
  |true=>
  rw[ah] at h;refine⟨(E.ok T υ bd).lay ah,?_⟩;simp only[cond_true] at h;split at h
  case h_2=>cases h
  rename_i id p ab;split at h
  case h_2=>cases h
  rename_i t af;split at h
  case h_2=>cases h
  rename_i nM fB;obtain⟨y,aB,h⟩:=dk.1 h;cases h;rw[ab];exact⟨rfl,t,nM,af,fB,jb aB⟩
theorem aaI {E:eI} {st:ba}:∀{rs:List ResultVar} {ca:List aq} {q:nE ca×List Nat},MD E.tt st rs ca=some q->yQ E.P st rs (jz ca q.1) q.2
 |[],[],q,h=>by cases h;rfl
 |[],_::_,q,h=>by cases h
 |_::_,[],q,h=>by cases h
 |r::rs,τ::ca,q,h=>by
  simp only[MD] at h;cases ag:τ.e3 with
  |false=>rw[ag] at h;cases h
  |true=>
  rw[ag] at h;simp only[cond_true] at h;obtain⟨y,aB,h⟩:=dk.1 h;obtain⟨gH,ai,rfl⟩:=eM.1 h;exact⟨ag,y.2,gH.2,rfl,asX aB,aaI ai⟩
def sd (
 st:ba) {r:Type} (o:Option r):Nat->(ps:List g7)->hb ps->Option (jA ps r)
 |_,[],_=>o
 |k,.v _::l,a=>sd st o (k+1) l a.2
 |k,.o _::l,a=>sd st o (k+1) l a.2
 |k,.c _ _::l,a=>sd st o (k+1) l a.2
 |k,.n::l,a=>sd st o (k+1) l a.2
 |k,.s _ _::l,a=>sd st o (k+1) l a.2
 |k,.m τ::l,a=>bif wR (.ref k []) (gt st.g k)&&(τ.e3&&wj τ) then match az st.h k with
  |some t=>match h1 τ t.2 with
   |some y=>(sd st o (k+1) l a.2).map fun q=>(y,q)
   |none=>none
  |none=>none else none
 |k,.w σ::l,a=>match gt st.g k with
  |.view j [] lo hi=>bif Nat.beq k j&&σ.e3 then match az st.h k with
   |some t=>match h1 (.osl σ) t.2 with
    |some y=>bif Nat.beq lo a.1.2.1&&(Nat.beq hi a.1.2.2&&(Nat.beq (List.length (α:=σ.den) y) (List.length (α:=σ.den) a.1.1)&&Nat.blt lo hi)) then(sd st o (k+1) l a.2).map fun q=>(y,q) else none
    |none=>none
   |none=>none else none
  |_=>none
theorem xV {st:ba} {r:Type} {o:Option r}:∀{k:Nat} {ps:List g7} {a:hb ps} {b:jA ps r},sd st o k ps a=some b->sN st k (fF ps a b)/\o=some (iB ps b)
 |k,[],a,b,h=>⟨trivial,h⟩
 |k,.v _::l,a,b,h=>xV (ps:=l) h
 |k,.o _::l,a,b,h=>xV (ps:=l) h
 |k,.c _ _::l,a,b,h=>xV (ps:=l) h
 |k,.n::l,a,b,h=>xV (ps:=l) h
 |k,.s _ _::l,a,b,h=>xV (ps:=l) h
 |k,.m τ::l,a,b,h=>by
  simp only[sd] at h;cases aa:(wR (.ref k []) (gt st.g k)&&(τ.e3&&wj τ)) with
  |false=>rw[aa] at h;cases h
  |true=>
  rw[aa] at h;simp only[bM] at aa;simp only[cond_true] at h;split at h
  case h_2=>cases h
  rename_i t af;split at h
  case h_2=>cases h
  rename_i y aB;obtain⟨q,ai,rfl⟩:=eM.1 h;obtain⟨J,R⟩:=xV (a:=a.2) ai;refine⟨⟨⟨(wR.ok aa.1).symm,?_,aa.2.1,aa.2.2⟩,J⟩,R⟩;rw[af];exact congrArg some (ll aB)
 |k,.w σ::l,a,b,h=>by
  simp only[sd] at h;split at h
  case h_2=>cases h
  rename_i j lo hi aD;cases aa:(Nat.beq k j&&σ.e3) with
  |false=>rw[aa] at h;cases h
  |true=>
  rw[aa] at h;simp only[bM] at aa;obtain rfl:=eZ aa.1;simp only[cond_true] at h;split at h
  case h_2=>cases h
  rename_i t af;split at h
  case h_2=>cases h
  rename_i y aB;cases hc:(Nat.beq lo a.1.2.1&&(Nat.beq hi a.1.2.2&&(Nat.beq (List.length (α:=σ.den) y) (List.length (α:=σ.den) a.1.1)&&Nat.blt lo hi))) with
  |false=>rw[hc] at h;cases h
  |true=>
  rw[hc] at h;simp only[bM] at hc;obtain⟨c4,cd,i5,lW⟩:=hc;have c4:=eZ c4;have cd:=eZ cd;have lW:lo<hi:=fw lW;obtain⟨q,ai,rfl⟩:=eM.1 h;obtain⟨J,R⟩:=xV (a:=a.2) ai;refine⟨⟨⟨by rw[aD,c4,cd],?_,⟨aa.2,by omega⟩,eZ i5⟩,J⟩,R⟩;rw[af];exact congrArg some (ll aB)
def KD (tt:List (TypeId×aq)) (ps:List g7) (rs:List ResultVar) (ca:List aq) (a:hb ps) (st:ba):Option (jA ps (nE ca)):=
 match MD tt st rs ca with
 |some q=>bif j7 (kQ 0 ps++q.2) then sd st (some q.1) 0 ps a else none
 |none=>none
theorem VW {E:eI} {ps:List g7} {rs:List ResultVar} {ca:List aq} {st:ba} {a:hb ps} {b:jA ps (nE ca)} {e:Exit} (aE:e=.normal\/e=.ret) (h:KD E.tt ps rs ca a st=some b):Tx E.P (fF ps a b) rs (jz ca (iB ps b)) e st:=by
 unfold KD at h;split at h
 case h_2=>cases h
 rename_i q ai;cases aa:j7 (kQ 0 ps++q.2) with
 |false=>rw[aa] at h;cases h
 |true=>
 rw[aa] at h;simp only[cond_true] at h;obtain⟨J,R⟩:=xV (a:=a) h;refine⟨aE,q.2,?_,?_,J⟩
 ·rw[<-ff R];exact aaI ai
 ·rw[(NG (k:=0) (ps:=ps) (a:=a) (b:=b)).2.2.1];exact aa
def VX (tt:List (TypeId×aq)) (ps:List g7) (rs:List ResultVar) (ca:List aq) (a:hb ps):Exit->ba->Option (jA ps (nE ca))
 |.normal,s=>KD tt ps rs ca a s
 |.ret,s=>KD tt ps rs ca a s
 |_,_=>none
def Lw (ic:gS) (an:oC) (c:Code) (ps:List g7) (rs:List ResultVar) (ca:List aq) (a:hb ps):Option (jA ps (nE ca)):=
 h7 ic an c ⟨po 0 ps a,pp 0 ps a⟩ _ (VX ic.tt ps rs ca a)
section
variable {E:eI}
theorem be.Zo {f:Nat} {fn:Func} {ps:List g7} {rs:List ResultVar} {ca:List aq} {m8:hb ps->Option (jA ps (nE ca))} (q2:List (Nat×bg)) (own:List (Nat×aq)) (hN:List axM) (an:oC) (bA:List TypeId) (ak6:∀T∈bA,Tw E.P T) (aF:E.P.funcs[f]?=some fn) (aa:fn.body.isSome=true) (tm:fn.results=rs.toArray) (ag:Nat.ble ps.length fn.ntmps=true) (oS:∀(vs:Array Value) (w:World),(callFunc f vs).run E.P w=.ok (.enter f vs) w) (af:∀q∈q2,be E q.2) (h:∀a,Lw ⟨E.tt,q2,own,fn.ntmps,kQ 0 ps++qX (kH 0 ps),[],hN,kH 0 ps,bA,[],E.glob⟩ an (fn.body.getD .skip) ps rs ca a=m8 a):be E ⟨f,ps,ca,m8⟩:=by
 refine⟨oS,fun a b n6=>?_⟩;rw[show(bg.mk f ps ca m8).m8 a=m8 a from rfl,<-h a] at n6;obtain⟨aC,aV,b4,fo⟩:=NG (k:=0) (ps:=ps) (a:=a) (b:=b);refine wv.apE aF (c:=fn.body.getD .skip) (by cases hc:fn.body with|none=>rw[hc] at aa;cases aa|some c=>rfl) tm (by rw[fo];exact fw ag) ?_;intro C FF ay PO CK K9;rw[aC,aV];rw[Hz] at ay CK;rw[b4] at ay;refine od (ic:=⟨E.tt,q2,own,fn.ntmps,kQ 0 ps++qX (kH 0 ps),[],hN,kH 0 ps,bA,[],E.glob⟩) ⟨rfl,FF.symm,ay.symm,⟨af,CK,ak6,K9,rfl⟩,sI.nil PO⟩ n6 ?_;intro e s hs;cases e with
 |normal=>exact VW (.inl rfl) hs
 |ret=>exact VW (.inr rfl) hs
 |_=>cases hs
theorem be.of {f:Nat} {fn:Func} {ps:List g7} {rs:List ResultVar} {ca:List aq} {m8:hb ps->Option (jA ps (nE ca))} (q2:List (Nat×bg)) (own:List (Nat×aq)) (hN:List axM) (an:oC) (aF:E.P.funcs[f]?=some fn) (aa:fn.body.isSome=true) (tm:fn.results=rs.toArray) (ag:Nat.ble ps.length fn.ntmps=true) (oS:∀(vs:Array Value) (w:World),(callFunc f vs).run E.P w=.ok (.enter f vs) w) (af:∀q∈q2,be E q.2) (h:∀a,Lw ⟨E.tt,q2,own,fn.ntmps,kQ 0 ps++qX (kH 0 ps),[],hN,kH 0 ps,[],[],E.glob⟩ an (fn.body.getD .skip) ps rs ca a=m8 a):be E ⟨f,ps,ca,m8⟩:=
 be.Zo q2 own hN an [] (fun _ h=>by cases h) aF aa tm ag oS af h
def MN:Code->Code
 |.seq x _=>x
 |c=>c
def abe:Code->Code
 |.seq _ y=>y
 |c=>c
def AU (n:Nat):Code->Option (Array Oper)
 |.region k bv _=>if k=n then some bv else none
 |.seq x y=>(AU n x).orElse fun _=>AU n y
 |.cond _ x y=>(AU n x).orElse fun _=>AU n y
 |.block _ x=>AU n x
 |.loop x=>AU n x
 |_=>none
theorem Qm {ic:gS} {aR:Type} {bv:Array Oper} {l2:List Nat} {K:ba->Option aR}:∀(da:List Nat) (st:ba),l9 ic bv (da++l2) st K=l9 ic bv da st fun s=>l9 ic bv l2 s K
 |[],st=>rfl
 |i::l,st=>by
  have aT:(fun s=>l9 ic bv (l++l2) s K)=fun s=>l9 ic bv l s fun s=>l9 ic bv l2 s K:=funext fun s=>Qm l s;simp only[mz,l9];split
  ·rfl
  split
  ·rw[aT]
  ·simp only[aT,Qm l]
theorem aj8 {P:Program} {tt:List (TypeId×aq)} (xy:∀T τ,az tt T=some τ->ei P τ T) {g:yV} {S:TypeId} (J:P.underlying g.T=some (.array g.xs.length S)) (R:az tt S=some (.int g.k)):∀x∈[g],TP P x:=fun x ab=>by rw[fv] at ab;subst ab;exact⟨S,J,xy _ _ R⟩
theorem abB:∀q∈([]:List (Nat×bg)),be E q.2:=fun _ h=>by cases h
theorem aur {k:Nat} {G:bg} {l:List (Nat×bg)} (J:be E G) (R:∀q∈l,be E q.2):∀q∈(k,G)::l,be E q.2:=fun q h=>by
 rcases dV.1 h with rfl|h
 ·exact J
 ·exact R q h
end
def Bn:Value->Value->Bool
 |.int k a,.int cN b=>if k=cN/\a=b then true else false
 |.bool a,.bool b=>a==b
 |.string a,.string b=>a.data.toList.isEmpty&&b.data.toList.isEmpty
 |.slice none 0 0,.slice none 0 0=>true
 |.map none,.map none=>true
 |.pointer none,.pointer none=>true
 |_,_=>false
theorem UB {a:ByteArray} (h:a.data.toList.isEmpty=true):a=ByteArray.empty:=by
 cases a with|mk d=>cases d with|mk l=>cases l with
  |nil=>rfl
  |cons=>cases h
theorem Bn.ok {a b:Value} (h:Bn a b=true):a=b:=by
 unfold Bn at h;split at h
 ·split at h
  ·rename_i ax;obtain⟨rfl,rfl⟩:=ax;rfl
  ·cases h
 ·rw[beq_iff_eq.1 h]
 ·simp only[bM] at h;rw[UB h.1,UB h.2]
 ·rfl
 ·rfl
 ·rfl
 ·cases h
def Bo:List Value->List Value->Bool
 |[],[]=>true
 |a::l,b::r=>Bn a b&&Bo l r
 |_,_=>false
theorem Bo.ok:∀{l r:List Value},Bo l r=true->l=r
 |[],[],_=>rfl
 |[],_::_,h=>by cases h
 |_::_,[],h=>by cases h
 |a::l,b::r,h=>by simp only[Bo,bM] at h;rw[Bn.ok h.1,Bo.ok h.2]
def kC (P:Program) (T:TypeId) (b:Nat) (z:Value):Bool:=match P.info? T with
 |some i=>Nat.beq i.size 1&&Nat.ble i.bytes b&&(match i.zero with|some y=>Bn y z|none=>false)
 |none=>false
theorem kC.ok {P:Program} {T:TypeId} {b:Nat} {z:Value} (h:kC P T b z=true):∃i,P.info? T=some i/\i.size=1/\i.bytes<=b/\i.zero=some z:=by
 unfold kC at h;split at h
 case h_2=>cases h
 rename_i i hi;simp only[bM] at h;obtain⟨⟨J,R⟩,ae⟩:=h;split at ae
 case h_2=>cases ae
 rename_i y aB;exact⟨i,hi,eZ J,fw R,by rw[aB,Bn.ok ae]⟩
mutual
def hR (P:Program):aq->TypeId->Bool
 |.int k,T=>kC P T 24 (.int k 0)&&(match P.underlying T with|some (.int cN)=>if cN=k then true else false|_=>false)
 |.bool,T=>kC P T 24 (.bool false)&&(match P.underlying T with|some .bool=>true|_=>false)
 |.str,T=>kC P T 24 (.string ByteArray.empty)&&(match P.underlying T with|some .string=>true|_=>false)
 |.bJ _ t,T=>kC P T 24 (.slice none 0 0)&&(match P.underlying T with|some (.slice S)=>hR P t S|_=>false)
 |.osl t,T=>kC P T 24 (.slice none 0 0)&&(match P.underlying T with|some (.slice S)=>hR P t S|_=>false)
 |.ptr _ t,T=>kC P T 24 (.pointer none)&&(match P.underlying T with|some (.pointer S)=>hR P t S|_=>false)
 |.optr t,T=>kC P T 24 (.pointer none)&&(match P.underlying T with|some (.pointer S)=>hR P t S|_=>false)
 |.mp t,T=>kC P T 24 (.map none)&&(match P.underlying T with|some (.map K S)=>(match P.underlying K with|some (.int .i64)=>hR P t S|_=>false)|_=>false)
 |.ee _ t,T=>kC P T 24 (.map none)&&(match P.underlying T with|some (.map K S)=>(match P.underlying K with|some (.int .i64)=>hR P t S|_=>false)|_=>false)
 |.st t,T=>Nat.blt 0 t.size&&match P.info? T with
  |some i=>Nat.beq i.size t.size&&Nat.ble i.bytes (24*t.size)&&(match i.zero with
   |some (.agg zs)=>Nat.beq zs.size t.size&&(match P.underlying T with|some (.struct fs)=>xc P t fs.toList 0 zs.toList|_=>false)
   |_=>false)
  |none=>false
 |_,_=>false
def xc (P:Program):aq->List Field->Nat->List Value->Bool
 |.pr a b,f::r,off,zs=>Nat.beq f.offset off&&hR P a f.type&&Nat.blt 0 a.size&&(match P.info? f.type with|some i=>(match i.zero with|some z=>Bo (zs.take a.size) z.cells.toList|none=>false)|none=>false)&&xc P b r (off+a.size) (zs.drop a.size)
 |.nil,[],_,zs=>zs.isEmpty
 |_,_,_,_=>false
end
mutual
theorem hR.ok {P:Program}:∀{τ:aq} {T:TypeId},hR P τ T=true->ei P τ T
 |.int k,T,h=>by
  simp only[hR,bM] at h;obtain⟨J,R⟩:=h;obtain⟨i,aK,aL,a8,bH⟩:=kC.ok J;split at R
  ·rename_i cN aQ;split at R
   ·rename_i e;subst e;exact⟨i,aK,aL,a8,bH,aQ⟩
   ·cases R
  ·cases R
 |.bool,T,h=>by
  simp only[hR,bM] at h;obtain⟨J,R⟩:=h;obtain⟨i,aK,aL,a8,bH⟩:=kC.ok J;split at R
  ·rename_i aQ;exact⟨i,aK,aL,a8,bH,aQ⟩
  ·cases R
 |.str,T,h=>by
  simp only[hR,bM] at h;obtain⟨J,R⟩:=h;obtain⟨i,aK,aL,a8,bH⟩:=kC.ok J;split at R
  ·rename_i aQ;exact⟨i,aK,aL,a8,bH,aQ⟩
  ·cases R
 |.bJ _ t,T,h=>by
  simp only[hR,bM] at h;obtain⟨J,R⟩:=h;obtain⟨i,aK,aL,a8,bH⟩:=kC.ok J;split at R
  ·rename_i S aQ;exact⟨i,S,aK,aL,a8,bH,aQ,hR.ok R⟩
  ·cases R
 |.osl t,T,h=>by
  simp only[hR,bM] at h;obtain⟨J,R⟩:=h;obtain⟨i,aK,aL,a8,bH⟩:=kC.ok J;split at R
  ·rename_i S aQ;exact⟨i,S,aK,aL,a8,bH,aQ,hR.ok R⟩
  ·cases R
 |.ptr _ t,T,h=>by
  simp only[hR,bM] at h;obtain⟨J,R⟩:=h;obtain⟨i,aK,aL,a8,bH⟩:=kC.ok J;split at R
  ·rename_i S aQ;exact⟨i,S,aK,aL,a8,bH,aQ,hR.ok R⟩
  ·cases R
 |.optr t,T,h=>by
  simp only[hR,bM] at h;obtain⟨J,R⟩:=h;obtain⟨i,aK,aL,a8,bH⟩:=kC.ok J;split at R
  ·rename_i S aQ;exact⟨i,S,aK,aL,a8,bH,aQ,hR.ok R⟩
  ·cases R
 |.mp t,T,h=>by
  simp only[hR,bM] at h;obtain⟨J,R⟩:=h;obtain⟨i,aK,aL,a8,bH⟩:=kC.ok J;split at R
  ·rename_i K S aQ;split at R
   ·rename_i ac;exact⟨i,K,S,aK,aL,a8,bH,aQ,ac,hR.ok R⟩
   ·cases R
  ·cases R
 |.ee _ t,T,h=>by
  simp only[hR,bM] at h;obtain⟨J,R⟩:=h;obtain⟨i,aK,aL,a8,bH⟩:=kC.ok J;split at R
  ·rename_i K S aQ;split at R
   ·rename_i ac;exact⟨i,K,S,aK,aL,a8,bH,aQ,ac,hR.ok R⟩
   ·cases R
  ·cases R
 |.st t,T,h=>by
  simp only[hR,bM] at h;obtain⟨aU,h⟩:=h;split at h
  case h_2=>cases h
  rename_i i hi;simp only[bM] at h;obtain⟨⟨J,R⟩,h⟩:=h;split at h
  case h_2=>cases h
  rename_i zs aZ;simp only[bM] at h;obtain⟨ae,h⟩:=h;split at h
  case h_2=>cases h
  rename_i fs aQ;exact⟨fw aU,i,fs,zs,hi,eZ J,fw R,aZ,aQ,xc.ok h,eZ ae⟩
 |.pr _ _,_,h=>by cases h
 |.nil,_,h=>by cases h
 |.dw,_,h=>by cases h
theorem xc.ok {P:Program}:∀{τ:aq} {fs:List Field} {off:Nat} {zs:List Value},xc P τ fs off zs=true->ji P τ fs off zs
 |.pr a b,[],off,zs,h=>by cases h
 |.pr a b,f::r,off,zs,h=>by
  simp only[xc,bM] at h;obtain⟨⟨⟨⟨J,R⟩,ae⟩,aI⟩,aX⟩:=h;split at aI
  case h_2=>cases aI
  rename_i i hi;split at aI
  case h_2=>cases aI
  rename_i z aZ;exact⟨eZ J,hR.ok R,fw ae,⟨i,z,hi,aZ,Bo.ok aI⟩,xc.ok aX⟩
 |.nil,[],off,zs,h=>by have h:zs=[]:=(by simpa[xc] using h);exact h
 |.nil,_::_,off,zs,h=>by cases h
 |.int _,fs,off,zs,h=>by cases fs<;>cases h
 |.bool,fs,off,zs,h=>by cases fs<;>cases h
 |.str,fs,off,zs,h=>by cases fs<;>cases h
 |.bJ _ _,fs,off,zs,h=>by cases fs<;>cases h
 |.ptr _ _,fs,off,zs,h=>by cases fs<;>cases h
 |.osl _,fs,off,zs,h=>by cases fs<;>cases h
 |.optr _,fs,off,zs,h=>by cases fs<;>cases h
 |.st _,fs,off,zs,h=>by cases fs<;>cases h
 |.dw,fs,off,zs,h=>by cases fs<;>cases h
end
theorem abL {P:Program}:∀{tt:List (TypeId×aq)},(tt.all fun q=>hR P q.2 q.1)=true->∀T τ,az tt T=some τ->ei P τ T
 |[],_,_,_,h=>by cases h
 |(k,σ)::r,h,T,τ,ah=>by
  simp only[yH,bM] at h;rw[db] at ah;split at ah
  ·rename_i e;cases ah;subst e;exact hR.ok h.1
  ·exact abL (by simpa using h.2) T τ ah
end
section
def sP:(τ:aq)->τ.den->Prop
 |.int k,n=>(Lit.int k n).wf=true
 |.bJ _ t,xs=>xs.length<=maxLen/\∀x∈xs,sP t x
 |.ptr _ t,x=>∀y,x=some y->sP t y
 |.st t,x=>sP t x
 |.pr a b,x=>sP a x.1/\sP b x.2
 |_,_=>True
def wQ:aq->Bool
 |.int _|.bool|.str|.nil=>true
 |.bJ _ t|.ptr _ t|.st t=>wQ t
 |.pr a b=>wQ a&&wQ b
 |_=>false
theorem NX {P:Program} {τ:aq} {T:TypeId} (h:ei P τ T):P.cellsOf T=τ.size:=by obtain⟨i,d,hi,_⟩:=h.info;unfold Program.cellsOf;rw[hi.info];simp[hi.size]
section
variable {H:Type} {enc:TypeId×Value->H} {P:Program} {w:World}
theorem NY {base:Nat} {a:Addr} {n:Nat} {cs:List Value} (h:w.cells? base a n=some cs) (ag:0<n):a.spot=none/\cs.length=n/\a.block<w.heap.size/\es w a.block a.off cs:=by
 have cg:=World.cells?_block h ag;obtain⟨_,ah,aD⟩:=World.cells?_some h;have ly:a.spot=none:=by
  have aU:=aD 0 ag;have:(w.cell? (a.add 0)).isSome=true:=(by rw[aU];simp[ct (show 0<cs.length by omega)]);simp only[Addr.add,if_true] at this;unfold World.cell? at this;split at this
  ·cases hs:a.spot with
   |none=>rfl
   |some x=>rw[hs] at this;simp at this
  ·cases this
 refine⟨ly,ah,cg,fun j v al=>?_⟩;have kX:j<n:=(by rw[<-ah];exact(e9.1 al).1);have:=aD j kX;rw[al] at this;rw[<-this];congr 1;unfold Addr.add;obtain⟨b,o,qZ⟩:=a;simp only at ly;subst ly;split
 ·rename_i aU;subst aU;rfl
 ·rfl
def Ip (w:World):du->Nat->Prop:=fun _ b=>b<w.heap.size
mutual
theorem M0:∀{τ:aq} {T:TypeId} {cs:List Value} {fuel:Nat} {x:DataW H×List MemPlace},wQ τ=true->ei P τ T->DataW.trod enc P w 0 (fun _=>true) true fuel T cs=some x->∃y:τ.den,bi (Ip w) w τ cs y []/\sP τ y
 |.int k,T,cs,fuel,x,_,⟨i,_,_,_,_,aQ⟩,h=>by obtain⟨n,rfl,_,hw⟩:=DataW.trod_int aQ h;exact⟨n,⟨rfl,rfl⟩,hw⟩
 |.bool,T,cs,fuel,x,_,⟨i,_,_,_,_,aQ⟩,h=>by obtain⟨b,rfl,_⟩:=DataW.trod_bool aQ h;exact⟨b,⟨rfl,rfl⟩,trivial⟩
 |.str,T,cs,fuel,x,_,⟨i,_,_,_,_,aQ⟩,h=>by obtain⟨s,rfl,_,_⟩:=DataW.trod_string aQ h;exact⟨s,⟨rfl,rfl⟩,trivial⟩
 |.bJ m t,T,cs,fuel,x,aG,⟨i,S,_,_,_,_,aQ,af⟩,h=>by
  rcases DataW.trod_slice aQ h with⟨rfl,_⟩|⟨a,len,cap,VB,dK,n,rfl,rfl,_,_,aly,awq,mQ,mR,_⟩
  ·exact⟨[],⟨rfl,none,0,rfl,bS _,fun _=>rfl,.inl rfl⟩,by simp[maxLen],by simp⟩
  have hc:=NX af;have mV:=af.pos;have Vz:∀i,i<len->∃y:t.den,∃ds:List Value,ds.length=t.size/\w.cells? 0 (a.add (i*t.size)) t.size=some ds/\bi (Ip w) w t ds y []/\sP t y:=by
   intro i hi;have J:=mR i hi;have R:VB[i]?=some (VB[i]'(by omega)):=ct _
   rw[R] at J;obtain⟨ds,ae,aI⟩:=dk.1 J;rw[hc] at ae;obtain⟨y,aB,hr⟩:=M0 (τ:=t) aG af aI;exact⟨y,ds,aB.len,ae,aB,hr⟩
  have alC:∀k,k<=len->∃xs:List t.den,xs.length=k/\∀(i:Nat) (y:t.den),xs[i]?=some y->∃ds:List Value,ds.length=t.size/\w.cells? 0 (a.add (i*t.size)) t.size=some ds/\bi (Ip w) w t ds y []/\sP t y:=by
   intro k
   induction k with
   |zero=>intro _;exact⟨[],rfl,fun i y h=>by simp at h⟩
   |succ k aT=>
    intro ac;obtain⟨xs,J,R⟩:=aT (by omega);obtain⟨y,ds,ae⟩:=Vz k (by omega);refine⟨xs++[y],by simp[J],fun i z aZ=>?_⟩;rcases ch i xs.length with hi|hi
    ·rw[sL hi] at aZ;exact R i z aZ
    ·rw[uo hi] at aZ;have alq:i=k:=by
      have:=(e9.1 aZ).1;simp at this;omega
     subst alq;rw[J,Nat.sub_self] at aZ;simp only[ld,cI] at aZ;subst aZ;exact⟨ds,ae⟩
  obtain⟨xs,J,R⟩:=alC len (bS _);refine⟨xs,⟨rfl,some a,cap,by rw[J],by rw[J];exact aly,(fun h=>by cases h),?_⟩,by rw[J];omega,fun y aB=>?_⟩
  ·cases len with
   |zero=>exact .inl (No.1 J)
   |succ len=>
    right;obtain⟨g4,w7,_,n7,_⟩:=Vz 0 (by omega);have akG:a.add (0*t.size)=a:=(by simp[Addr.add]);rw[akG] at n7;obtain⟨ly,_,cg,_⟩:=NY n7 mV;refine⟨a.block,a.off,by obtain⟨b,o,qZ⟩:=a;simp only at ly;subst ly;rfl,cg,fun i y aB=>?_⟩;obtain⟨ds,cJ,cz,cX,_⟩:=R i y aB;obtain⟨_,_,_,jM⟩:=NY cz mV;refine⟨ds,cJ,?_,cX⟩;have aC:(a.add (i*t.size)).block=a.block:=(by unfold Addr.add;split<;>rfl);have aV:(a.add (i*t.size)).off=a.off+i*t.size:=by
     unfold Addr.add;split
     ·rename_i aU;rw[aU];rfl
     ·rfl
    rw[aC,aV] at jM;exact jM
  ·obtain⟨i,hi,rfl⟩:=jk.1 aB;obtain⟨_,_,_,_,hr⟩:=R i _ (ct hi);exact hr
 |.ptr m t,T,cs,fuel,x,aG,⟨i,S,_,_,_,_,aQ,af⟩,h=>by
  rcases DataW.trod_pointer aQ h with⟨rfl,_⟩|⟨a,b3,y,n,rfl,rfl,_,ae,aI⟩
  ·exact⟨none,⟨rfl,rfl⟩,fun y h=>by cases h⟩
  rw[NX af] at ae;obtain⟨z,aZ,hr⟩:=M0 (τ:=t) aG af aI;obtain⟨ly,_,cg,jM⟩:=NY ae af.pos;refine⟨some z,⟨rfl,a.block,a.off,b3,by obtain⟨b,o,qZ⟩:=a;simp only at ly;subst ly;rfl,cg,aZ.len,jM,aZ⟩,fun y h=>by cases h;exact hr⟩
 |.st t,T,cs,fuel,x,aG,⟨_,i,fs,zs,hi,hs,_,_,aQ,aF,_⟩,h=>by
  obtain⟨xs,n,rfl,_,ah,ab,mR⟩:=DataW.trod_struct aQ h;have hc:P.cellsOf T=t.size:=(by unfold Program.cellsOf;rw[hi];simp[hs]);obtain⟨y,aB,hr⟩:=abJ (τ:=t) (fs:=fs.toList) (cs:=cs) aG aF (by rw[ks,<-hc];exact ah) (fun j f aF=>by
   have aF:fs[j]?=some f:=(by simpa using aF);have:=mR j f aF;have al:j<xs.length:=(by rw[ab];exact(qa.1 aF).1);rw[ct al] at this;exact⟨_,_,this⟩)
  rw[rf] at aB;exact⟨y,aB,hr⟩
 |.osl _,_,_,_,_,aG,_,_=>by cases aG
 |.optr _,_,_,_,_,aG,_,_=>by cases aG
 |.pr _ _,_,_,_,_,_,bd,_=>bd.elim
 |.nil,_,_,_,_,_,bd,_=>bd.elim
 |.dw,_,_,_,_,aG,_,_=>by cases aG
theorem abJ:∀{τ:aq} {fs:List Field} {off:Nat} {zs cs:List Value},wQ τ=true->ji P τ fs off zs->cs.length=off+τ.size->(∀(j:Nat) f,fs[j]?=some f->∃(n:Nat) (x:DataW H×List MemPlace),DataW.trod enc P w 0 (fun _=>true) true n f.type ((cs.drop f.offset).take (P.cellsOf f.type))=some x)->∃y:τ.den,bi (Ip w) w τ (cs.drop off) y []/\sP τ y
 |.pr a b,f::r,off,zs,cs,aG,c9,ah,ab=>by simp only[wQ,bM] at aG;obtain⟨J,R,ae,_,aX⟩:=c9;obtain⟨n,x,ag⟩:=ab 0 f rfl;rw[J,NX R] at ag;obtain⟨HW,bu,bE⟩:=M0 aG.1 R ag;obtain⟨dL,cl,gu⟩:=abJ (cs:=cs) aG.2 aX (by rw[ah];simp only[aq.size];omega) (fun j g aD=>ab (j+1) g aD);exact⟨(HW,dL),⟨[],[],rfl,bu,by rw[uj];exact cl⟩,bE,gu⟩
 |.nil,[],off,zs,cs,_,_,ah,_=>by refine⟨(),⟨rfl,?_⟩,trivial⟩;rw[List.drop_eq_nil_iff];simp only[aq.size] at ah;omega
 |.pr _ _,[],_,_,_,_,h,_,_=>h.elim
 |.nil,_::_,_,_,_,_,h,_,_=>h.elim
 |.int _,fs,_,_,_,_,h,_,_=>by cases fs<;>exact h.elim
 |.bool,fs,_,_,_,_,h,_,_=>by cases fs<;>exact h.elim
 |.str,fs,_,_,_,_,h,_,_=>by cases fs<;>exact h.elim
 |.bJ _ _,fs,_,_,_,_,h,_,_=>by cases fs<;>exact h.elim
 |.ptr _ _,fs,_,_,_,_,h,_,_=>by cases fs<;>exact h.elim
 |.osl _,fs,_,_,_,_,h,_,_=>by cases fs<;>exact h.elim
 |.optr _,fs,_,_,_,_,h,_,_=>by cases fs<;>exact h.elim
 |.st _,fs,_,_,_,_,h,_,_=>by cases fs<;>exact h.elim
 |.dw,fs,_,_,_,_,h,_,_=>by cases fs<;>exact h.elim
end
theorem arA {τ:aq} {T:TypeId} {base:Nat} {v:Value} (aG:wQ τ=true) (bd:ei P τ T) (h:Value.okWide P w .any base T v):v=cH τ v.cells.toList:=by
 cases τ with
 |int k=>
  obtain⟨i,_,_,_,_,aQ⟩:=bd;obtain⟨n,rfl⟩:=Go.WideShapes.okWide_int aQ h;rfl
 |bool=>
  obtain⟨i,_,_,_,_,aQ⟩:=bd;obtain⟨n,rfl⟩:=Go.WideShapes.okWide_bool aQ h;rfl
 |str=>
  obtain⟨i,_,_,_,_,aQ⟩:=bd;obtain⟨n,rfl⟩:=Go.WideShapes.okWide_string aQ h;rfl
 |bJ m t=>
  obtain⟨i,S,_,_,_,_,aQ,_⟩:=bd;obtain⟨a,l,c,rfl⟩:=Go.WideShapes.okWide_slice aQ h;rfl
 |ptr m t=>
  obtain⟨i,S,_,_,_,_,aQ,_⟩:=bd;simp only[Value.okWide,aQ,Cell.okWide] at h;cases v<;>first|rfl|simp_all [Cell.ok]
 |st t=>
  obtain⟨_,i,fs,zs,_,_,_,_,aQ,_,_⟩:=bd;simp only[Value.okWide,aQ] at h;obtain⟨cs,rfl,_⟩:=h;rfl
 |_=>first|(cases aG;done)|exact bd.elim
def BL (P:Program):List g7->List TypeId->Bool
 |[],[]=>true
 |.v τ::l,T::r=>wQ τ&&hR P τ T&&BL P l r
 |_,_=>false
def sQ:(ps:List g7)->hb ps->Prop
 |[],_=>True
 |.v τ::l,a=>sP τ a.1/\sQ l a.2
 |.m _::l,a=>sQ l a.2
 |.o _::l,a=>sQ l a.2
 |.c _ _::l,a=>sQ l a.2
 |.n::l,a=>sQ l a.2
 |.w _::l,a=>sQ l a.2
 |.s _ _::l,a=>sQ l a.2
theorem Uu {P:Program}:∀{ps:List g7} {im:List TypeId} {k:Nat},BL P ps im=true->kH k ps=none
 |[],_,_,_=>rfl
 |.v τ::l,T::r,k,h=>by simp only[BL,bM] at h;exact Uu (ps:=l) (k:=k+1) h.2
 |.v _::_,[],_,h=>by cases h
 |.m _::_,im,_,h=>by cases im<;>cases h
 |.o _::_,im,_,h=>by cases im<;>cases h
 |.c _ _::_,im,_,h=>by cases im<;>cases h
 |.n::_,im,_,h=>by cases im<;>cases h
 |.w _::_,im,_,h=>by cases im<;>cases h
 |.s _ _::_,im,_,h=>by cases im<;>cases h
def Hr {α:Type}:List α->List (List Nat)
 |[]=>[]
 |_::l=>[]::Hr l
theorem MC {α:Type}:∀l:List α,(Hr l).flatten=[]
 |[]=>rfl
 |_::l=>by simp only[Hr,kL,MC l,hj]
theorem Uw:∀{ps:List g7} {im:List TypeId} {base:Nat} {vs:List Value} {ds:List (DataW H)} {p:List MemPlace},BL P ps im=true->DataW.TrodAll enc P w 0 (fun _=>true) true im vs ds p->(∀(j:Nat) t v,im[j]?=some t->vs[j]?=some v->Value.okWide P w .any base t v)->∃a:hb ps,sQ ps a/\∀{r:Type} (b:jA ps r),nV (DT (fun b=>b<w.heap.size) (fun _=>False) w) (fF ps a b) vs (Hr vs)
 |[],[],base,vs,ds,p,_,af,_=>by cases vs<;>cases ds<;>first|exact⟨(),trivial,fun _=>trivial⟩|exact af.elim
 |.v τ::l,T::r,base,vs,ds,p,aa,af,hv=>by
  simp only[BL,bM] at aa;obtain⟨⟨dn,dM⟩,hL⟩:=aa;obtain⟨v,ab5,d,iu,g2,eF,rfl,rfl,rfl,J,R⟩:=Go.ChangeShapes.trodAll_cons af;obtain⟨fuel,J⟩:=J;have bd:=hR.ok dM;obtain⟨y,aB,hr⟩:=M0 dn bd J;obtain⟨a,aG,fQ⟩:=Uw hL R (fun j t ed bx lz=>hv (j+1) t ed (by simpa using bx) (by simpa using lz));refine⟨(y,a),⟨hr,aG⟩,fun b=>⟨⟨rfl,v.cells.toList,arA dn bd (hv 0 T v rfl rfl),?_⟩,fQ b⟩⟩;exact aB.mono (fun m b aa=>⟨by cases m with
   |cD=>exact aa
   |ey=>exact .inl aa,c3.refl _ _⟩) (by simp)
 |[],_::_,_,_,_,_,h,_,_=>by cases h
 |.v _::_,[],_,_,_,_,h,_,_=>by cases h
 |.m _::_,_,_,_,_,_,h,_,_=>by cases h
 |.o _::_,_,_,_,_,_,h,_,_=>by cases h
 |.c _ _::_,_,_,_,_,_,h,_,_=>by cases h
 |.n::_,_,_,_,_,_,h,_,_=>by cases h
 |.w _::_,_,_,_,_,_,h,_,_=>by cases h
theorem abI {P:Program} (fR:laidOutB P=true) {W f8:World} {abq:Nat->Bool}:∀{im:List TypeId} {vs:List Value} {ds:List (DataW H)} {p:List MemPlace},(∀t∈im,P.readableRec t=true/\t<P.types.size)->DataW.TrodAll enc P W 0 (fun _=>true) true im vs ds p->(∀x∈p,W.sameAt f8 x)->(∀x∈p,abq x.block=true)->DataW.TrodAll enc P f8 0 abq true im vs ds p
 |[],vs,ds,p,_,h,_,_=>by cases vs<;>cases ds<;>first|exact h|exact h.elim
 |T::im,vs,ds,p,hr,h,hs,ly=>by obtain⟨v,ab5,d,iu,g2,eF,rfl,rfl,rfl,J,R⟩:=Go.ChangeShapes.trodAll_cons h;obtain⟨bX,bn⟩:=hr T (by simp);exact⟨g2,eF,Go.WideElems.Trod_stays fR bX bn J (fun x ab=>hs x (by simp[ab])) (fun x ab=>ly x (by simp[ab])),abI fR (fun t af=>hr t (by simp[af])) R (fun x ab=>hs x (by simp[ab])) (fun x ab=>ly x (by simp[ab])),rfl⟩
theorem anx {E:eI} {F:bg} {fn:Func} {s:ChangeSpec} {T:TypeId} (c9:be E F) (fR:laidOutB E.P=true) (al8:(fn.params.toList.all fun t=>E.P.readableRec t&&Nat.blt t E.P.types.size)=true) (CH:BL E.P F.ps fn.params.toList=true) (_hrs:F.rs=[.bool]) (bd:fn.resultTypes=#[T]) (aa:E.P.underlying T=some .bool) (XA:s.vars=[]) (amk:∀ds:List (DataW H),ds.length=fn.params.toList.length->s.fn H ds=⟨[.lit (.bool true)],ds,[]⟩) (Af:∀a,sQ F.ps a->∃b,F.m8 a=some b/\jz F.rs (iB F.ps b)=[⟨.bool,true⟩]) {Ug fresh akJ agc:Bool} {W:World} {base:Nat} {args:Array Value} {ds gs:List (DataW H)} {qr:List MemPlace} (Qg:∀(j:Nat) t v,fn.params[j]?=some t->args[j]?=some v->Value.okWide E.P W .any base t v) (lv:DataW.Whole enc E.P fn.params.toList s.vars Ug W args.toList ds gs qr) (nt:mu E (fun b=>b<W.heap.size) W):Calls E.P F.f args W fun e f8=>∃v,e=.returned v/\s.post enc E.P fn Ug fresh akJ agc W args v f8:=by
 have WC:=lv;obtain⟨p,q,eS,c6,jc,z2,eh⟩:=lv;rw[XA] at c6;have ali:gs=[]/\q=[]:=by cases gs with
  |nil=>exact⟨rfl,c6⟩
  |cons=>exact c6.elim
 obtain⟨rfl,rfl⟩:=ali;rw[sK] at jc;subst jc;obtain⟨a,al7,fQ⟩:=Uw (w:=W) (base:=base) CH eS (fun j t v af hv=>Qg j t v (by simpa using af) (by simpa using hv));obtain⟨b,n6,tm⟩:=Af a al7;have dR:∀{im:List TypeId} {vs:List Value} {ds:List (DataW H)} {p:List MemPlace},DataW.TrodAll enc E.P W 0 (fun _=>true) true im vs ds p->ds.length=im.length:=by
  intro im
  induction im with
  |nil=>intro vs ds p h;cases vs<;>cases ds<;>first|rfl|exact h.elim
  |cons T im aT=>
   intro vs ds p h;obtain⟨v,ab5,d,iu,g2,eF,rfl,rfl,rfl,J,R⟩:=Go.ChangeShapes.trodAll_cons h;simp[aT R]
 have FR:s.fn H (ds++[])=⟨[.lit (.bool true)],ds,[]⟩:=(by rw[sK];exact amk ds (dR eS));have cg:=WC.lt;have hc:=c9.2 a b n6 W (fun b=>b<W.heap.size) (fun _=>False) args.toList (Hr args.toList) (fun b h=>h.elim id (fun h=>h.elim)) (fQ b) (by rw[MC];exact List.nodup_nil) (by rw[MC];simp) (by rw[Hz,Uu CH];trivial);rw[Array.toArray_toList] at hc;refine(hc nt).mono ?_;rintro e f8 ⟨I',awb,Lk,eV,rfl,ay⟩;refine⟨_,rfl,?_⟩;have F5:tP eV=.bool true:=by
  have:=ay.res;rw[tm] at this;cases eV with
  |nil=>cases Lk<;>exact this.elim
  |cons v eV=>
   cases Lk with
   |nil=>exact this.elim
   |cons aU Lk=>
    obtain⟨⟨cs,hv,_,rfl⟩,kY⟩:=this;cases eV with
    |nil=>exact hv
    |cons=>cases Lk<;>exact kY.elim
 have z5:∀b,b<W.heap.size->f8.heap[b]?=W.heap[b]?:=fun b aa=>ay.heap b aa (by rw[MC];simp);have Lm:∀x∈qr,W.sameAt f8 x:=fun x ab=>by
  have:=z5 x.block (cg x ab);cases x with
  |cell b off=>show f8.cell? _=W.cell? _;unfold World.cell?;rw[show f8.heap[b]?=W.heap[b]? from this]
  |map b=>exact this
 have ala:∀b off,MemPlace.cell b off∈qr->f8.frozen? ⟨b,off,none⟩=W.frozen? ⟨b,off,none⟩:=fun b off ab=>(by unfold World.frozen?;rw[show f8.heap[b]?=W.heap[b]? from z5 b (cg _ ab)]);rw[F5];have al9:∀t∈fn.params.toList,E.P.readableRec t=true/\t<E.P.types.size:=fun t af=>(by have:=fk.1 al8 t af;simp only[bM] at this;exact⟨this.1,fw this.2⟩);have qy:∀qZ:Nat->Bool,(∀x∈qr,qZ x.block=true)->DataW.TrodAll enc E.P f8 0 qZ true fn.params.toList args.toList (s.fn H (ds++[])).args qr:=fun qZ ly=>(by rw[FR];exact abI fR al9 eS Lm ly);have Xp:∀(b:Nat) (qZ:Nat->Bool) (aN:Bool),DataW.TrodAll enc E.P f8 b qZ aN fn.resultTypes.toList ((Value.bool true).resultList fn.resultTypes.size) (s.fn H (ds++[])).results []:=fun b qZ aN=>(by rw[FR,bd];exact Go.ChangeShapes.trodAll_mk1 ⟨1,by unfold DataW.trod;rw[aa];rfl⟩);have XB:∀qZ:Nat->Bool,DataW.TrodVars enc E.P f8 qZ s.vars (s.fn H (ds++[])).vars []:=fun qZ=>(by rw[FR,XA];rfl);have xy:∀(j:Nat) (t:TypeId) (r:Value),fn.resultTypes[j]?=some t->((Value.bool true).resultList fn.resultTypes.size)[j]?=some r->Value.okWide E.P f8 .any 0 t r:=
  Go.RowKit.ok_one bd rfl (Go.RowKit.okWide_bool_mk aa true)
 have oX:∀x∈qr,(fun b=>decide (b<W.heap.size)) x.block=true:=fun x ab=>(by simpa using cg x ab);have ac:W.keptBut f8 (fun _=>False):=by
  refine⟨ay.os,ay.output,fun i hi=>?_⟩;rw[z5 i hi];cases W.heap[i]? with
  |none=>rfl
  |some o=>cases o with
   |cells c t f=>exact⟨rfl,rfl,rfl,fun _ _=>rfl⟩
   |map bG c=>exact .inr ⟨rfl,rfl⟩
   |_=>rfl
 refine⟨ds,[],qr,[],qr,[],WC,Xp _ _ _,qy _ oX,XB _,World.keptBut_mono (fun _ h=>h.elim) ac,fun _=>?_⟩;refine⟨xy,_,_,([]++qr)++[],⟨[]++qr,[],Go.ChangeShapes.trodAll_append (qy _ (fun _ _=>rfl)) (Xp _ _ _),XB _,rfl,?_,?_⟩,?_⟩
 ·intro b off ay;have ay:MemPlace.cell b off∈qr:=(by simpa using ay);rw[ala b off ay];exact z2 b off ay
 ·intro aG;simpa using eh aG
 ·intro x ab _;simpa using ab
end
end
section
inductive ub where
 |l
 |o (a:ub)
 |t (j:TC) (a b:ub)
 |n (b:ub)
 |p (dg:ql) (m:TE) (a:ub)
 |k (l:List Nat) (a:ub)
 |z (F:List Nat) (a:ub)
 |d (L:List (Nat×List Nat×List Nat))
def aaZ (bv:Array Oper) (i:Nat) (f m:List Nat):nO:=match bv[i]? with
 |some o=>⟨i,dl o,o.looksAt bv,tK bv i,f,m⟩
 |none=>⟨i,[],[],[],f,m⟩
def xb:Code->oC
 |.seq x y=>.two .none (xb x) (xb y)
 |.cond _ x y=>.two .none (xb x) (xb y)
 |.block _ x=>.one (xb x)
 |.region _ bv true=>.draw ((List.range bv.size).map fun i=>aaZ bv i [] [])
 |_=>.leaf
def ub.ex:ub->Code->oC
 |.l,X=>xb X
 |.o A,.block _ X=>.one (A.ex X)
 |.t c2 A B,.seq X Y=>.two c2 (A.ex X) (B.ex Y)
 |.t c2 A B,.cond _ X Y=>.two c2 (A.ex X) (B.ex Y)
 |.n B,.seq X Y=>.two .none (xb X) (B.ex Y)
 |.n B,.cond _ X Y=>.two .none (xb X) (B.ex Y)
 |.p S M A,.loop X=>.loop S M (A.ex X)
 |.k L A,X=>.keep L (A.ex X)
 |.z F A,X=>.hN F (A.ex X)
 |.d L,.region _ O _=>.draw (L.map fun q=>aaZ O q.1 q.2.1 q.2.2)
 |_,_=>.leaf
def Iv (E:eI):Type:={l:List (Nat×bg)//∀q∈l,be E q.2}
def bq {E:eI}:Iv E:=⟨[],abB⟩
def aM {E:eI} {F:bg} (h:be E F) (t:Iv E):Iv E:=⟨(F.f,F)::t.1,aur h t.2⟩
section
variable {E:eI} {f:Nat} {fn:Func} {ps:List g7} {ca:List aq} {m8:hb ps->Option (jA ps (nE ca))}
theorem be.q (tb:Iv E) (s:ub) (aF:E.P.funcs[f]?=some fn) (oS:∀(vs:Array Value) (w:World),(callFunc f vs).run E.P w=.ok (.enter f vs) w) (own:List (Nat×aq):=[]) (hN:List axM:=[]) (aa:(fn.body.isSome&&Nat.ble ps.length fn.ntmps)=true:=by kernel_rfl) (h:∀a,Lw ⟨E.tt,tb.1,own,fn.ntmps,kQ 0 ps++qX (kH 0 ps),[],hN,kH 0 ps,[],[],E.glob⟩ (s.ex (fn.body.getD .skip)) (fn.body.getD .skip) ps fn.results.toList ca a=m8 a:=by intro a;kernel_rfl):be E ⟨f,ps,ca,m8⟩:=
 have aa:=bM _ _▸aa
 be.Zo tb.1 own hN _ [] (fun _ h=>by cases h) aF aa.1 Array.toArray_toList.symm aa.2 oS tb.2 h
end
end
section
def U {α:Type} (x:Option α) (Q:α->Prop):Prop:=∃y,x=some y/\Q y
section
variable {α aR σ ρ τ:Type}
theorem U.au {y:α} {Q:α->Prop}:U (some y) Q↔Q y:=⟨fun⟨_,h,ai⟩=>by cases h;exact ai,fun h=>⟨y,rfl,h⟩⟩
theorem U.vH {Q:α->Prop}:U none Q↔False:=⟨(fun⟨_,h,_⟩=>by cases h),False.elim⟩
theorem U.c8 {x:Option α} {f:α->Option aR} {Q:aR->Prop}:U (x.bind f) Q↔U x (fun y=>U (f y) Q):=by
 cases x with
 |none=>simp only[Option.bind_none,U.vH]
 |some y=>simp only[br,U.au]
theorem U.GW {x:Option α} {f:α->aR} {Q:aR->Prop}:U (x.map f) Q↔U x (fun y=>Q (f y)):=by
 cases x with
 |none=>simp only[Option.map_none,U.vH]
 |some y=>simp only[g6,U.au]
theorem U.c7 {b:Bool} {x y:Option α} {Q:α->Prop}:U (bif b then x else y) Q↔(b=true->U x Q)/\(b=false->U y Q):=by cases b<;>simp
theorem U.mono {x:Option α} {P Q:α->Prop} (h:U x P) (ai:∀y,P y->Q y):U x Q:=let⟨y,J,R⟩:=h;⟨y,J,ai y R⟩
theorem U.eq_iff {x:Option α} {r:α}:U x (· =r)↔x=some r:=⟨fun⟨y,h,e⟩=>by rw[h,e],fun h=>⟨r,h,rfl⟩⟩
theorem U.We {xs:List α} {i:Int} {Q:α->Prop}:U (bb xs i) Q↔∃(h:i.toNat<xs.length),0<=i/\Q xs[i.toNat]:=by
 unfold bb;by_cases hi:0<=i
 ·rw[if_pos hi];by_cases ah:i.toNat<xs.length
  ·rw[ct ah,U.au];simp[ah,hi]
  ·rw[gy (by omega),U.vH];simp[ah]
 ·rw[if_neg hi,U.vH];simp[hi]
theorem U.jL {xs:List α} {i:Nat} {Q:α->Prop}:U (bb xs (i:Int)) Q↔∃(h:i<xs.length),Q xs[i]:=by rw[U.We];simp
theorem U.tv {n:Nat} {i:Int} {Q:Nat->Prop}:U (cV n i) Q↔(0<=i/\i.toNat<n)/\Q i.toNat:=by
 unfold cV;by_cases h:0<=i/\i.toNat<n
 ·rw[if_pos h,U.au];simp[h]
 ·rw[if_neg h,U.vH];simp[h]
theorem U.xK {n:Nat} {Q:Unit->Prop}:U (dA n) Q↔n<=gv/\Q ():=by
 unfold dA;by_cases h:n<=gv
 ·rw[if_pos h,U.au];simp[h]
 ·rw[if_neg h,U.vH];simp[h]
theorem U.Da {l c:Int} {Q:Nat->Prop}:U (gG l c) Q↔(0<=l/\l<=c/\c<=(gv:Int))/\Q l.toNat:=by
 unfold gG;by_cases h:0<=l/\l<=c/\c<=(gv:Int)
 ·rw[if_pos h,U.au];simp[h]
 ·rw[if_neg h,U.vH];simp[h]
def cy (xs:List α) (k:Nat) (f:α->Option aR):Option aR:=match xs[k]? with
 |some e=>f e
 |none=>none
theorem U.sW {xs:List α} {k:Nat} {g:α->Option aR} {Q:aR->Prop}:U (cy xs k g) Q↔∃(h:k<xs.length),U (g xs[k]) Q:=by
 unfold cy;by_cases h:k<xs.length
 ·rw[ct h];simp[h]
 ·rw[gy (by omega)];simp[h,U.vH]
theorem U.loop {f:σ->Option (σ⊕ρ)} {Q:ρ->Prop} (I:σ->Prop) (m:σ->Nat) {s:σ} (aU:I s) (hs:∀s,I s->U (f s) (fun|.inl s'=>I s'/\m s'<m s|.inr r=>Q r)):U (loop f s) Q:=by
 have key:∀n s,m s<=n->I s->∃r,ko f (n+1) s=some r/\Q r:=by
  intro n
  induction n with
  |zero=>
   intro s ao hi;obtain⟨y,J,R⟩:=hs s hi;cases y with
   |inl s'=>have:=R.2;omega
   |inr r=>exact⟨r,by simp only[ko,J],R⟩
  |succ n aT=>
   intro s ao hi;obtain⟨y,J,R⟩:=hs s hi;cases y with
   |inl s'=>
    obtain⟨r,ae,aI⟩:=aT s' (by have:=R.2;omega) R.1;exact⟨r,by rw[ko,J];exact ae,aI⟩
   |inr r=>exact⟨r,by simp only[ko,J],R⟩
 obtain⟨r,J,R⟩:=key (m s) s (bS _) aU;exact⟨r,GP.2 ⟨_,J⟩,R⟩
theorem U.for {f:Int×τ->Option ((Int×τ)⊕ρ)} {Q:ρ->Prop} (n:Nat) (I:Nat->τ->Prop) {i0:Nat} {t0:τ} {Gm:Int} (al:Gm=(i0:Int)) (aU:I i0 t0) (hi:i0<=n) (ve:∀i t,i0<=i->i<n->I i t->U (f ((i:Int),t)) (fun|.inl s'=>s'.1=((i+1:Nat):Int)/\I (i+1) s'.2|.inr r=>Q r)) (u2:∀t,I n t->U (f ((n:Int),t)) (fun|.inl _=>False|.inr r=>Q r)):U (lP.loop f (Gm,t0)) Q:=by
 subst al;refine U.loop (fun s=>∃i:Nat,i0<=i/\i<=n/\s.1=(i:Int)/\I i s.2) (fun s=>n-s.1.toNat) ⟨i0,bS _,hi,rfl,aU⟩ ?_;rintro⟨j,t⟩ ⟨i,ah,hi,rfl,af⟩;rcases ch i n with h|h
 ·refine(ve i t ah h af).mono ?_;rintro(⟨r7,t'⟩|r) aB
  ·obtain⟨e,R⟩:=aB;simp only at e;subst e;exact⟨⟨i+1,by omega,by omega,rfl,R⟩,by show n-Int.toNat _<n-Int.toNat _;simp;omega⟩
  ·exact aB
 ·obtain rfl:i=n:=(by omega);refine(u2 t af).mono ?_;rintro(s'|r) aB
  ·exact aB.elim
  ·exact aB
end
theorem au8 (x:Int):IntKind.i64.wrap x=if(9223372036854775808:Int)<=x %18446744073709551616 then x %18446744073709551616-18446744073709551616 else x %18446744073709551616:=by
 unfold IntKind.wrap;by_cases h:(9223372036854775808:Int)<=x %18446744073709551616
 ·rw[if_pos h];exact if_pos (show(true&&decide (x %18446744073709551616>=(9223372036854775808:Int)))=true by simp[h])
 ·rw[if_neg h];exact if_neg (show¬(true&&decide (x %18446744073709551616>=(9223372036854775808:Int)))=true by simp[h])
theorem wrap64 {x:Int} (J:-9223372036854775808<=x) (R:x<=9223372036854775807):IntKind.i64.wrap x=x:=by rw[au8];split<;>omega
theorem gR {i:Nat} (h:i<9223372036854775807):IntKind.i64.wrap ((i:Int)+1)=((i+1:Nat):Int):=by rw[wrap64 (by omega) (by omega)];simp
end
section
abbrev aW {α:Type} (l:List α):Int:=((l.length:Nat):Int)
abbrev aY (x:Int):Int:=IntKind.i64.wrap x
abbrev bo (x:Int):Int:=IntKind.u64.wrap x
abbrev dF (x:Int):Int:=IntKind.u32.wrap x
abbrev bR (x:Int):Int:=IntKind.i64.wrap (x+1)
def rd {α aR:Type} (l:List α) (i:Int) (k:α->Option aR):Option aR:=(cV l.length i).bind fun j=>(cy l j fun e=>some e).bind k
def wr {α aR:Type} (l:List α) (i:Int) (v:α) (k:List α->Option aR):Option aR:=(cV l.length i).bind fun j=>(cy l j fun _=>some (l.set j v)).bind k
section
variable {α aR:Type}
theorem qU {l:List α} {i:Nat} (h:i<l.length) (k:α->Option aR):rd l (i:Int) k=k l[i]:=by unfold rd cV;rw[if_pos ⟨by omega,by simpa using h⟩];show(cy l (i:Int).toNat _).bind k=_;unfold cy;rw[d4,ct h];rfl
theorem sC {l:List α} {i:Nat} (h:i<l.length) (v:α) (k:List α->Option aR):wr l (i:Int) v k=k (l.set i v):=by unfold wr cV;rw[if_pos ⟨by omega,by simpa using h⟩];show(cy l (i:Int).toNat _).bind k=_;unfold cy;rw[d4,ct h];rfl
end
end
def Jq:axA->Option axK:=fun(fC,dc,_)=>(loop (σ:=axJ) (ρ:=axD) (fun(anv,eJ,_)=>bif decide (eJ<((fC.length:Nat):Int)) then(Option.bind (α:=axL⊕axo) ((bb fC eJ).bind fun e8=>Option.bind (α:=Unit⊕(axL⊕axo)) (bif decide (e8<=anv)==false then bif decide (e8>=dc) then some (.inr (.inr (.inr (.inr (false,()))))) else some (.inl ()) else some (.inr (.inr (.inr (.inr (false,())))))) fun q=>match q with
 |.inl _=>(some (.inl (e8,())))
 |.inr r=>some r) fun q=>match q with
 |.inl (anw,_)=>(some (.inl (anw,IntKind.i64.wrap (eJ+(1:Int)),())))
 |.inr r=>some r) else some (.inr (.inl ()))) ((-1:Int),(0:Int),())).bind fun q=>match q with
 |.inl _=>(some (true,()))
 |.inr r=>some r
def wW:axL->Option axK:=fun(cA,_)=>some ((cA !=cA),())
def zf:axJ->Option axK:=fun(cA,sE,_)=>(wW (cA,())).bind fun(a9,_)=>(bif a9==true then(wW (sE,())).bind fun(bD,_)=>bif (!bD)==false then some (decide (cA<sE),()) else some (true,()) else some (decide (cA<sE),()))
def JQ:axL->Option axK:=fun(cA,_)=>some ((cA !=cA),())
def JK:axA->Option axG:=fun(cA,S0,_)=>(loop (σ:=axJ) (ρ:=axL) (fun(eE,qL,_)=>bif decide (eE<qL) then(ec IntKind.u64 (IntKind.u64.wrap (IntKind.i64.wrap (eE+qL))) (1:Int)).bind fun e8=>(bb cA (IntKind.i64.wrap e8)).bind fun eH=>(zf (eH,S0,())).bind fun(dB,_)=>bif dB then some (.inl (IntKind.i64.wrap (IntKind.i64.wrap e8+(1:Int)),qL,())) else some (.inl (eE,IntKind.i64.wrap e8,())) else some (.inr (eE,()))) ((0:Int),((cA.length:Nat):Int),())).bind fun(iy,_)=>(bif decide (iy<((cA.length:Nat):Int))==true then(bb cA iy).bind fun dq=>bif (dq==S0)==false then(bb cA iy).bind fun hT=>(JQ (hT,())).bind fun(ij,_)=>bif ij==true then(JQ (S0,())).bind fun(k6,_)=>some (iy,k6,()) else some (iy,false,()) else some (iy,true,()) else some (iy,false,()))
def B0:(axy×Int×Int×Unit)->Option axK:=fun(dN,eG,q7,_)=>(bb dN.1 eG).bind fun eK=>(JK (eK,q7,())).bind fun(_,cE,_)=>some (cE,())
def EG:axt->Option axL:=fun(dN,_)=>(bif decide ((((dN.1).length:Nat):Int)>(200:Int)) then some ((6:Int),()) else((loop (σ:=axL) (ρ:=axE) (fun(kG,_)=>bif decide (kG<(((dN.1).length:Nat):Int)) then(Option.bind (α:=Unit⊕axs) ((bb dN.1 kG).bind fun gk=>(Jq (gk,(((dN.1).length:Nat):Int),())).bind fun(bD,_)=>bif (!bD)==false then(B0 (dN,kG,kG,())).bind fun(bW,_)=>bif bW then some (.inr (.inr (.inr ((1:Int),())))) else some (.inl ()) else some (.inr (.inr (.inr ((1:Int),()))))) fun q=>match q with
 |.inl _=>(some (.inl (IntKind.i64.wrap (kG+(1:Int)),())))
 |.inr r=>some r) else some (.inr (.inl ()))) ((0:Int),())).bind fun q=>match q with
 |.inl _=>((loop (σ:=axL) (ρ:=axE) (fun(he,_)=>bif decide (he<(((dN.1).length:Nat):Int)) then((bb dN.1 he).bind fun gm=>(loop (σ:=axL) (ρ:=axl) (fun(lH,_)=>bif decide (lH<((gm.length:Nat):Int)) then(bb gm lH).bind fun dq=>(B0 (dN,dq,he,())).bind fun(hd,_)=>bif !hd then some (.inr (.inr (.inr (.inr ((1:Int),()))))) else some (.inl (IntKind.i64.wrap (lH+(1:Int)),())) else some (.inr (.inl ()))) ((0:Int),())).bind fun q=>match q with
 |.inl _=>(some (.inl (IntKind.i64.wrap (he+(1:Int)),())))
 |.inr r=>some r) else some (.inr (.inl ()))) ((0:Int),())).bind fun q=>match q with
 |.inl _=>(some ((0:Int),()))
 |.inr r=>some r)
 |.inr r=>some r))
def Ji:axL->Option axq:=fun(hF,_)=>(gG hF hF).bind fun lF=>(gG hF hF).bind fun se=>(loop (σ:=axm) (ρ:=axq) (fun(eJ,uW,_)=>bif decide (eJ<hF) then(cV (uW.1).length eJ).bind fun qN=>((cy uW.1 qN fun _=>some ((uW.1).set qN (-1:Int))).map fun Ts=>(Ts,uW.2)).bind fun H9=>(cV (H9.2.1).length eJ).bind fun h9=>(((cy H9.2.1 h9 fun _=>some ((H9.2.1).set h9 (-1:Int))).map fun H3=>(H3,H9.2.2)).map fun sF=>(H9.1,sF)).bind fun mr=>some (.inl (IntKind.i64.wrap (eJ+(1:Int)),mr,())) else some (.inr (uW,()))) ((0:Int),(List.replicate lF (0:Int),(List.replicate se (0:Int),())),())).bind fun(ajx,_)=>some (ajx,())
def Jh:(axv×Int×Int×Unit)->Option axq:=fun(iv,g0,h8,_)=>(loop (σ:=axm) (ρ:=axq) (fun(ek,uW,_)=>Option.bind (α:=axq⊕(axm⊕axq)) (bif (ek !=(-1:Int))==true then bif decide (ek<h8) then some (.inl (uW,())) else some (.inr (.inr (uW,()))) else some (.inr (.inr (uW,())))) fun q=>match q with
 |.inl (zM,_)=>((cV (zM.2.1).length ek).bind fun CY=>(cy zM.2.1 CY fun uS=>some uS).bind fun dq=>(cV (zM.2.1).length ek).bind fun h9=>(((cy zM.2.1 h9 fun _=>some ((zM.2.1).set h9 h8)).map fun H3=>(H3,zM.2.2)).map fun sF=>(zM.1,sF)).bind fun mr=>Option.bind (α:=axq) (bif dq==(-1:Int) then(cV (mr.1).length ek).bind fun Gp=>((cy mr.1 Gp fun _=>some ((mr.1).set Gp h8)).map fun Bj=>(Bj,mr.2)).bind fun ws=>some (ws,()) else some (mr,())) fun(n1,_)=>some (.inl (dq,n1,())))
 |.inr r=>some r) (g0,iv,())).bind fun(ajy,_)=>some (ajy,())
def Jg:axt->Option axA:=fun(dN,_)=>(EG (dN,())).bind fun(j9,_)=>(bif j9 !=(0:Int) then some ([],j9,()) else(Ji ((((dN.1).length:Nat):Int),())).bind fun(k7,_)=>(loop (σ:=axm) (ρ:=axq) (fun(pZ,VS,_)=>bif decide (pZ<(((dN.1).length:Nat):Int)) then(bb dN.1 pZ).bind fun sD=>(loop (σ:=axm) (ρ:=axq) (fun(tV,n1,_)=>bif decide (tV<((sD.length:Nat):Int)) then(bb sD tV).bind fun yw=>(Jh (n1,yw,pZ,())).bind fun(an5,_)=>some (.inl (IntKind.i64.wrap (tV+(1:Int)),an5,())) else some (.inr (n1,()))) ((0:Int),VS,())).bind fun(ajz,_)=>some (.inl (IntKind.i64.wrap (pZ+(1:Int)),ajz,())) else some (.inr (VS,()))) ((0:Int),k7,())).bind fun(ajA,_)=>some (ajA.1,(0:Int),()))
def Kk:(axy×List Int×Int×Unit)->Option axH:=fun(dN,arX,eE,_)=>(gG (IntKind.i64.wrap (eE+(1:Int))) (IntKind.i64.wrap (eE+(1:Int)))).bind fun G3=>(cV (List.replicate G3 false).length eE).bind fun Gs=>(cy (List.replicate G3 false) Gs fun _=>some ((List.replicate G3 false).set Gs true)).bind fun Bl=>(bb dN.1 eE).bind fun q9=>(loop (σ:=axz) (ρ:=axF) (fun(m7,YK,_)=>bif decide (m7<((q9.length:Nat):Int)) then(bb q9 m7).bind fun p8=>(loop (σ:=axz) (ρ:=axF) (fun(r8,pP,_)=>Option.bind (α:=axF⊕axj) (bif decide (r8>=(0:Int))==true then bif decide (r8<eE)==true then(cV pP.length r8).bind fun Gt=>(cy pP Gt fun Fm=>some Fm).bind fun yx=>bif !yx then some (.inl (pP,())) else some (.inr (.inr (pP,()))) else some (.inr (.inr (pP,()))) else some (.inr (.inr (pP,())))) fun q=>match q with
 |.inl (AB,_)=>((cV AB.length r8).bind fun Gu=>(cy AB Gu fun _=>some (AB.set Gu true)).bind fun Tp=>(bb arX r8).bind fun Tj=>some (.inl (Tj,Tp,())))
 |.inr r=>some r) (p8,YK,())).bind fun(aox,_)=>some (.inl (IntKind.i64.wrap (m7+(1:Int)),aox,())) else some (.inr (YK,()))) ((0:Int),Bl,())).bind fun(YL,_)=>(loop (σ:=(Int×List Bool×List Int×Unit)) (ρ:=axH) (fun(A2,LZ,Dn,_)=>bif decide (A2<((YL.length:Nat):Int)) then Option.bind (α:=(List Bool×List Int×Unit)) ((cV LZ.length A2).bind fun QB=>(cy LZ QB fun OA=>some OA).bind fun Nc=>bif Nc then(dA (Dn.length+([A2]).length)).bind fun _=>some (LZ,(Dn++[A2]),()) else some (LZ,Dn,())) fun(aoy,arP,_)=>some (.inl (IntKind.i64.wrap (A2+(1:Int)),aoy,arP,())) else some (.inr (Dn,()))) ((0:Int),YL,[],())).bind fun(arQ,_)=>some (arQ,())
def Kj:axt->Option axw:=fun(dN,_)=>(Jg (dN,())).bind fun(My,aax,_)=>(bif aax !=(0:Int) then some ([],aax,()) else(gG ((My.length:Nat):Int) ((My.length:Nat):Int)).bind fun Ri=>(loop (σ:=(Int×List (List Int)×Unit)) (ρ:=axy) (fun(tW,Z8,_)=>bif decide (tW<((My.length:Nat):Int)) then(Kk (dN,My,tW,())).bind fun(ya,_)=>(loop (σ:=(Int×List (List Int)×List Int×Unit)) (ρ:=axy) (fun(SB,vN,SC,_)=>bif decide (SB<((ya.length:Nat):Int)) then(cV SC.length SB).bind fun Gt=>(cy SC Gt fun Fm=>some Fm).bind fun yx=>(cV vN.length yx).bind fun X4=>(cy vN X4 fun ail=>some ail).bind fun avl=>(dA (avl.length+([tW]).length)).bind fun _=>(cV vN.length yx).bind fun LG=>bif Nat.beq X4 LG&&true then(cy vN LG fun ain=>some ain).bind fun avn=>(cy vN LG fun _=>some (vN.set LG (avn++[tW]))).bind fun H7=>
 some (.inl (IntKind.i64.wrap (SB+(1:Int)),H7,SC,())) else none else some (.inr (vN,()))) ((0:Int),Z8,ya,())).bind fun(Dn,_)=>some (.inl (IntKind.i64.wrap (tW+(1:Int)),Dn,())) else some (.inr (Z8,()))) ((0:Int),List.replicate Ri [],())).bind fun(RU,_)=>some (RU,(0:Int),()))
def EY:(List Int×List Int×Unit)->Option axK:=fun(bt,cS,_)=>(bif ((bt.length:Nat):Int)!=((cS.length:Nat):Int) then some (false,()) else((loop (σ:=axL) (ρ:=axD) (fun(eE,_)=>bif decide (eE<((bt.length:Nat):Int)) then(bb bt eE).bind fun eK=>(bb cS eE).bind fun e8=>bif eK !=e8 then some (.inr (.inr (false,()))) else some (.inl (IntKind.i64.wrap (eE+(1:Int)),())) else some (.inr (.inl ()))) ((0:Int),())).bind fun q=>match q with
 |.inl _=>(some (true,()))
 |.inr r=>some r))
def JU:axH->Option axK:=fun(fC,_)=>(loop (σ:=axL) (ρ:=axD) (fun(g0,_)=>bif decide (g0<((fC.length:Nat):Int)) then(bb fC g0).bind fun gk=>(bb fC (IntKind.i64.wrap (g0-(1:Int)))).bind fun eK=>bif decide (gk<=eK) then some (.inr (.inr (false,()))) else some (.inl (IntKind.i64.wrap (g0+(1:Int)),())) else some (.inr (.inl ()))) ((1:Int),())).bind fun q=>match q with
 |.inl _=>(some (true,()))
 |.inr r=>some r
def E9:axx->Option axt:=fun(MV,_)=>(loop (σ:=axb) (ρ:=axc) (fun(HS,Dy,KP,_)=>bif decide (HS<((MV.length:Nat):Int)) then(loop (σ:=(Int×axy×axy×List Int×Unit)) (ρ:=axa) (fun(Bd,Dz,KQ,LO,_)=>bif decide (Bd<((MV.length:Nat):Int)) then Option.bind (α:=axa) (Option.bind (α:=(Bool×axy×axy×List Int×Unit)) (bif (HS !=Bd)==true then(bb MV HS).bind fun Ti=>(bb Ti Bd).bind fun lM=>bif lM==false then(bb MV Bd).bind fun HZ=>(bb HZ HS).bind fun yx=>some (yx,Dz,KQ,LO,()) else some (true,Dz,KQ,LO,()) else some (false,Dz,KQ,LO,())) fun(atA,ML,KR,QL,_)=>
 bif atA then(dA (QL.length+([Bd]).length)).bind fun _=>some (ML,KR,(QL++[Bd]),()) else some (ML,KR,QL,())) fun(atB,ajZ,ans,_)=>some (.inl (IntKind.i64.wrap (Bd+(1:Int)),atB,ajZ,ans,())) else some (.inr (Dz,KQ,LO,()))) ((0:Int),Dy,KP,[],())).bind fun(A2,O6,Ym,_)=>(dA ((O6.1).length+([Ym]).length)).bind fun _=>some (.inl (IntKind.i64.wrap (HS+(1:Int)),A2,((O6.1++[Ym]),O6.2),())) else some (.inr (Dy,KP,()))) ((0:Int),([],()),([],()),())).bind fun(_,aj0,_)=>some (aj0,())
def EX:axA->Option axK:=fun(fC,eG,_)=>(loop (σ:=axL) (ρ:=axD) (fun(eE,_)=>bif decide (eE<((fC.length:Nat):Int)) then(bb fC eE).bind fun eK=>bif eK==eG then some (.inr (.inr (true,()))) else some (.inl (IntKind.i64.wrap (eE+(1:Int)),())) else some (.inr (.inl ()))) ((0:Int),())).bind fun q=>match q with
 |.inl _=>(some (false,()))
 |.inr r=>some r
def Cf:axt->Option axL:=fun(dN,_)=>(bif decide ((((dN.1).length:Nat):Int)>(200:Int)) then some ((6:Int),()) else((loop (σ:=axL) (ρ:=axE) (fun(eG,_)=>bif decide (eG<(((dN.1).length:Nat):Int)) then(bb dN.1 eG).bind fun gk=>(JU (gk,())).bind fun(bD,_)=>bif !bD then some (.inr (.inr ((1:Int),()))) else((loop (σ:=axL) (ρ:=axl) (fun(kD,_)=>(bb dN.1 eG).bind fun eH=>bif decide (kD<((eH.length:Nat):Int)) then(Option.bind (α:=Unit⊕(axL⊕axl)) ((bb dN.1 eG).bind fun gm=>(bb gm kD).bind fun hH=>bif decide (hH<(0:Int))==false then bif decide (hH>=(((dN.1).length:Nat):Int))==false then bif (hH==eG)==false then(bb dN.1 hH).bind fun dq=>(EX (dq,eG,())).bind fun(hd,_)=>bif !hd then some (.inr (.inr (.inr (.inr (.inr ((1:Int),())))))) else some (.inl ()) else some (.inr (.inr (.inr (.inr (.inr ((1:Int),())))))) else some (.inr (.inr (.inr (.inr (.inr ((1:Int),())))))) else some (.inr (.inr (.inr (.inr (.inr ((1:Int),()))))))) fun q=>match q with
 |.inl _=>(some (.inl (IntKind.i64.wrap (kD+(1:Int)),())))
 |.inr r=>some r) else some (.inr (.inl ()))) ((0:Int),())).bind fun q=>match q with
 |.inl _=>(some (.inl (IntKind.i64.wrap (eG+(1:Int)),())))
 |.inr r=>some r) else some (.inr (.inl ()))) ((0:Int),())).bind fun q=>match q with
 |.inl _=>(some ((0:Int),()))
 |.inr r=>some r))
def Kd:axA->Option axK:=fun(fC,dc,_)=>(loop (σ:=axL) (ρ:=axD) (fun(eE,_)=>bif decide (eE<((fC.length:Nat):Int)) then(Option.bind (α:=Unit⊕(axL⊕axD)) ((bb fC eE).bind fun eK=>bif decide (eK<(0:Int))==false then(bb fC eE).bind fun e8=>bif decide (e8>=dc) then some (.inr (.inr (.inr (false,())))) else some (.inl ()) else some (.inr (.inr (.inr (false,()))))) fun q=>match q with
 |.inl _=>(some (.inl (IntKind.i64.wrap (eE+(1:Int)),())))
 |.inr r=>some r) else some (.inr (.inl ()))) ((0:Int),())).bind fun q=>match q with
 |.inl _=>(some (true,()))
 |.inr r=>some r
def Ke:axH->Option axK:=fun(fC,_)=>(loop (σ:=axL) (ρ:=axD) (fun(g0,_)=>bif decide (g0<((fC.length:Nat):Int)) then((some (0)).bind fun md=>(hp g0).bind fun Yi=>(ia md Yi fC.length).map fun _=>(md,Yi)).bind fun dp=>(bb fC g0).bind fun eH=>(EX (((fC.take dp.2).drop dp.1),eH,())).bind fun(dB,_)=>bif dB then some (.inr (.inr (true,()))) else some (.inl (IntKind.i64.wrap (g0+(1:Int)),())) else some (.inr (.inl ()))) ((0:Int),())).bind fun q=>match q with
 |.inl _=>(some (false,()))
 |.inr r=>some r
def Fb:axt->Option axx:=fun(dN,_)=>(loop (σ:=axu) (ρ:=axx) (fun(eG,k5,_)=>bif decide (eG<(((dN.1).length:Nat):Int)) then(gG (((dN.1).length:Nat):Int) (((dN.1).length:Nat):Int)).bind fun o3=>(loop (σ:=(Int×List (List Bool)×List Bool×Unit)) (ρ:=(List (List Bool)×List Bool×Unit)) (fun(kD,si,MK,_)=>(bb dN.1 eG).bind fun hH=>bif decide (kD<((hH.length:Nat):Int)) then(bb dN.1 eG).bind fun dq=>(bb dq kD).bind fun hT=>(cV MK.length hT).bind fun LB=>(cy MK LB fun _=>some (MK.set LB true)).bind fun sF=>some (.inl (IntKind.i64.wrap (kD+(1:Int)),si,sF,())) else some (.inr (si,MK,()))) ((0:Int),k5,List.replicate o3 false,())).bind fun(qR,aa0,_)=>(dA (qR.length+([aa0]).length)).bind fun _=>some (.inl (IntKind.i64.wrap (eG+(1:Int)),(qR++[aa0]),())) else some (.inr (k5,()))) ((0:Int),[],())).bind fun(sh,_)=>
 some (sh,())
def Fc:axL->Option axx:=fun(hF,_)=>(loop (σ:=axu) (ρ:=axx) (fun(g0,k5,_)=>bif decide (g0<hF) then(gG hF hF).bind fun o3=>(dA (k5.length+([List.replicate o3 false]).length)).bind fun _=>some (.inl (IntKind.i64.wrap (g0+(1:Int)),(k5++[List.replicate o3 false]),())) else some (.inr (k5,()))) ((0:Int),[],())).bind fun(vO,_)=>some (vO,())
def Kg:axk->Option axr:=fun(dN,o1,_)=>(Cf (dN,())).bind fun(a9,_)=>(bif a9 !=(0:Int) then some (([],()),a9,()) else(Kd (o1,(((dN.1).length:Nat):Int),())).bind fun(bD,_)=>bif !bD then some (([],()),(3:Int),()) else(Ke (o1,())).bind fun(bW,_)=>bif bW then some (([],()),(90:Int),()) else(Fb (dN,())).bind fun(cE,_)=>(Fc (((o1.length:Nat):Int),())).bind fun(dB,_)=>(loop (σ:=axe) (ρ:=axf) (fun(iy,iU,Mh,_)=>bif decide (iy<((o1.length:Nat):Int)) then(loop (σ:=axe) (ρ:=axf) (fun(LA,ov,o6,_)=>bif decide (LA<((o1.length:Nat):Int)) then(cV o6.length iy).bind fun qM=>(bb o1 iy).bind fun HX=>
 (bb cE HX).bind fun sD=>(bb o1 LA).bind fun wo=>(bb sD wo).bind fun t9=>((cy o6 qM fun Oz=>some Oz).bind fun Fl=>cV Fl.length LA).bind fun Gr=>(cy o6 qM fun Vu=>(cy Vu Gr fun _=>some (Vu.set Gr t9)).map fun wt=>o6.set qM wt).bind fun H5=>some (.inl (IntKind.i64.wrap (LA+(1:Int)),ov,H5,())) else some (.inr (ov,o6,()))) ((0:Int),iU,Mh,())).bind fun(Dy,RR,_)=>some (.inl (IntKind.i64.wrap (iy+(1:Int)),Dy,RR,())) else some (.inr (iU,Mh,()))) ((0:Int),([],()),dB,())).bind fun(_,vM,_)=>(E9 (vM,())).bind fun(tO,_)=>some (tO,(0:Int),()))
def Kh:axt->Option axh:=fun(dN,_)=>(Fb (dN,())).bind fun(bn,_)=>(gG (((dN.1).length:Nat):Int) (((dN.1).length:Nat):Int)).bind fun se=>some ((bn,(List.replicate se false,())),())
def Ff:(Option axp×Int×Unit)->Option axH:=fun(Ch,eG,_)=>(loop (σ:=axB) (ρ:=axH) (fun(q7,RT,_)=>Ch.bind fun e8=>bif decide (q7<(((e8.1).length:Nat):Int)) then Option.bind (α:=axH) (Option.bind (α:=(Bool×List Int×Unit)) (Ch.bind fun eH=>(bb eH.1 eG).bind fun gm=>(bb gm q7).bind fun hH=>bif hH==true then Ch.bind fun dq=>(bb dq.2.1 q7).bind fun hT=>some ((!hT),RT,()) else some (false,RT,())) fun(jh,x2,_)=>bif jh then(dA (x2.length+([q7]).length)).bind fun _=>some ((x2++[q7]),()) else some (x2,())) fun(o6,_)=>some (.inl (IntKind.i64.wrap (q7+(1:Int)),o6,())) else some (.inr (RT,()))) ((0:Int),[],())).bind fun(qR,_)=>some (qR,())
def Fe:(axp×Int×Unit)->Option axh:=fun(Ch,eG,_)=>(Ff (some Ch,eG,())).bind fun(a9,_)=>(loop (σ:=axg) (ρ:=axh) (fun(ek,Vy,_)=>bif decide (ek<((a9.length:Nat):Int)) then(loop (σ:=axg) (ρ:=axh) (fun(lC,zB,_)=>bif decide (lC<((a9.length:Nat):Int)) then Option.bind (α:=axh) (bif ek !=lC then(bb a9 ek).bind fun hH=>(cV (zB.1).length hH).bind fun kn=>(bb a9 lC).bind fun hU=>((cy zB.1 kn fun Fi=>some Fi).bind fun Oy=>cV Oy.length hU).bind fun qM=>((cy zB.1 kn fun zA=>(cy zA qM fun _=>some (zA.set qM true)).map fun Bj=>(zB.1).set kn Bj).map fun ws=>(ws,zB.2)).bind fun H4=>some (H4,()) else some (zB,())) fun(aiz,_)=>
 some (.inl (IntKind.i64.wrap (lC+(1:Int)),aiz,())) else some (.inr (zB,()))) ((0:Int),Vy,())).bind fun(aiA,_)=>some (.inl (IntKind.i64.wrap (ek+(1:Int)),aiA,())) else some (.inr (Vy,()))) ((0:Int),Ch,())).bind fun(Fp,_)=>(cV (Fp.2.1).length eG).bind fun X2=>(((cy Fp.2.1 X2 fun _=>some ((Fp.2.1).set X2 true)).map fun wt=>(wt,Fp.2.2)).map fun H5=>(Fp.1,H5)).bind fun Bl=>some (Bl,())
def Ki:axt->Option axw:=fun(dN,_)=>(Cf (dN,())).bind fun(k6,_)=>(bif k6 !=(0:Int) then some ([],k6,()) else(Kh (dN,())).bind fun(j9,_)=>(loop (σ:=(Int×axp×List (List Int)×Unit)) (ρ:=axy) (fun(Am,ace,sh,_)=>bif decide (Am<(((dN.1).length:Nat):Int)) then(Ff (some ace,Am,())).bind fun(tN,_)=>(dA (([Am]).length+tN.length)).bind fun _=>(dA (sh.length+([([Am]++tN)]).length)).bind fun _=>(Fe (ace,Am,())).bind fun(an4,_)=>some (.inl (IntKind.i64.wrap (Am+(1:Int)),an4,(sh++[([Am]++tN)]),())) else some (.inr (sh,()))) ((0:Int),j9,[],())).bind fun(x3,_)=>some (x3,(0:Int),()))
def JV:axA->Option axK:=fun(fC,dc,_)=>(bif ((fC.length:Nat):Int)!=dc then some (false,()) else((gG dc dc).bind fun se=>(loop (σ:=axz) (ρ:=axD) (fun(ek,SI,_)=>bif decide (ek<dc) then(Option.bind (α:=axF⊕axi) (Option.bind (α:=axF⊕(axF⊕axi)) ((bb fC ek).bind fun eH=>bif decide (eH<(0:Int))==false then(bb fC ek).bind fun gm=>bif decide (gm>=dc)==false then(bb fC ek).bind fun hH=>(cV SI.length hH).bind fun kn=>(cy SI kn fun aif=>some aif).bind fun hU=>bif hU then some (.inr (.inr (.inr (.inr (false,()))))) else some (.inl (SI,())) else some (.inr (.inr (.inr (.inr (false,()))))) else some (.inr (.inr (.inr (.inr (false,())))))) fun q=>match q with
 |.inl (SH,_)=>((bb fC ek).bind fun kb=>(cV SH.length kb).bind fun qM=>(cy SH qM fun _=>some (SH.set qM true)).bind fun avD=>some (.inl (avD,())))
 |.inr r=>some r) fun q=>match q with
 |.inl (atD,_)=>(some (.inl (IntKind.i64.wrap (ek+(1:Int)),atD,())))
 |.inr r=>some r) else some (.inr (.inl ()))) ((0:Int),List.replicate se false,())).bind fun q=>match q with
 |.inl _=>(some (true,()))
 |.inr r=>some r))
def Fa:axk->Option axr:=fun(dN,mg,_)=>(Cf (dN,())).bind fun(a9,_)=>(bif a9 !=(0:Int) then some (([],()),a9,()) else bif ((mg.length:Nat):Int)!=(((dN.1).length:Nat):Int) then some (([],()),(2:Int),()) else(JV (mg,(((dN.1).length:Nat):Int),())).bind fun(bD,_)=>bif !bD then some (([],()),(90:Int),()) else(Kg (dN,mg,())).bind fun(bW,cE,_)=>some (bW,cE,()))
section
open Go
def HL (sort:List Int->Option (List Int)) (l:List Int):Option Bool:=bif Nat.ble l.length 1000000 then(sort l).bind fun aS=>bif Nat.ble aS.length 1000000 then some (decide ((Lib.compact aS).length<l.length)) else none else none
end
def Jt:axr->Option axK:=fun(dN,eG,_)=>(bif decide (eG>=(0:Int))==true then some (decide (eG<(((dN.1).length:Nat):Int)),()) else some (false,()))
def B6:axL->Option axL:=fun(cA,_)=>Option.bind (α:=axJ) (bif decide (cA>=(65536:Int)) then(ec IntKind.u32 cA (16:Int)).bind fun dL=>some (dL,(16:Int),()) else some (cA,(0:Int),())) fun(Be,AE,_)=>Option.bind (α:=axJ) (bif decide (Be>=(256:Int)) then(ec IntKind.u32 Be (8:Int)).bind fun e8=>some (e8,IntKind.i64.wrap (AE+(8:Int)),()) else some (Be,AE,())) fun(HV,xX,_)=>(t6 LQ (IntKind.u8.wrap HV)).bind fun ag5=>some (IntKind.i64.wrap (xX+IntKind.i64.wrap ag5),())
def Vi:axL->Option axL:=fun(cA,_)=>Option.bind (α:=axJ) (bif decide (cA>=(4294967296:Int)) then(ec IntKind.u64 cA (32:Int)).bind fun dL=>some (dL,(32:Int),()) else some (cA,(0:Int),())) fun(Be,AE,_)=>Option.bind (α:=axJ) (bif decide (Be>=(65536:Int)) then(ec IntKind.u64 Be (16:Int)).bind fun e8=>some (e8,IntKind.i64.wrap (AE+(16:Int)),()) else some (Be,AE,())) fun(HV,xX,_)=>Option.bind (α:=axJ) (bif decide (HV>=(256:Int)) then(ec IntKind.u64 HV (8:Int)).bind fun hH=>some (hH,IntKind.i64.wrap (xX+(8:Int)),()) else some (HV,xX,())) fun(avf,Rk,_)=>(t6 LQ (IntKind.u8.wrap avf)).bind fun ag3=>some (IntKind.i64.wrap (Rk+IntKind.i64.wrap ag3),())
def Oe:axL->Option axL:=fun(cA,_)=>(Vi (cA,())).bind fun(bn,_)=>some (bn,())
def JP:(List Int×Int×Int×Unit)->Option axH:=fun(zt,yY,Ep,_)=>(loop (σ:=axB) (ρ:=axH) (fun(ek,Vj,_)=>bif decide (ek<Ep) then(loop (σ:=axB) (ρ:=axH) (fun(lC,zv,_)=>Option.bind (α:=axH⊕(axB⊕axH)) (bif decide (lC>yY)==true then(cV zv.length lC).bind fun vo=>(cy zv vo fun OC=>some OC).bind fun hT=>(cV zv.length (IntKind.i64.wrap (lC-(1:Int)))).bind fun LB=>(cy zv LB fun Fi=>some Fi).bind fun kb=>(zf (hT,kb,())).bind fun(k7,_)=>bif k7 then some (.inl (zv,())) else some (.inr (.inr (zv,()))) else some (.inr (.inr (zv,())))) fun q=>match q with
 |.inl (zu,_)=>((cV zu.length (IntKind.i64.wrap (lC-(1:Int)))).bind fun LC=>(cy zu LC fun aii=>some aii).bind fun wo=>(cV zu.length lC).bind fun am4=>(cy zu am4 fun Oz=>some Oz).bind fun oB=>(cV zu.length lC).bind fun Gr=>(cy zu Gr fun _=>some (zu.set Gr wo)).bind fun To=>(cV To.length (IntKind.i64.wrap (lC-(1:Int)))).bind fun Gs=>(cy To Gs fun _=>some (To.set Gs oB)).bind fun Bl=>some (.inl (IntKind.i64.wrap (lC-(1:Int)),Bl,())))
 |.inr r=>some r) (ek,Vj,())).bind fun(ahW,_)=>some (.inl (IntKind.i64.wrap (ek+(1:Int)),ahW,())) else some (.inr (Vj,()))) (IntKind.i64.wrap (yY+(1:Int)),zt,())).bind fun(Ot,_)=>some (Ot,())
def JR:(List Int×Int×Int×Int×Unit)->Option axH:=fun(zt,yY,Ep,anH,_)=>(loop (σ:=(Int×Int×Int×Bool×Bool×List Int×Unit)) (ρ:=axH) (fun(yZ,UA,_,_,_,ahT,_)=>bif decide (IntKind.i64.wrap (UA-yZ)<=(12:Int)) then(JP (ahT,yZ,UA,())).bind fun(an1,_)=>some (.inr (an1,())) else none) (yY,Ep,anH,true,true,zt,())).bind some
def ES:axH->Option axH:=fun(cA,_)=>(Oe (IntKind.u64.wrap ((cA.length:Nat):Int),())).bind fun(bn,_)=>(JR (cA,(0:Int),((cA.length:Nat):Int),bn,())).bind fun(iS,_)=>some (iS,())
def Js:List Int×Unit->Option axK:=fun a=>(HL (fun l=>(ES (l,())).map fun r=>r.1) a.1).map fun b=>(b,())
def Oc:(Int×Option axy×Unit)->Option axK:=fun(auV,arT,_)=>arT.bind fun gk=>(Jt (gk,auV,())).bind fun(bD,_)=>some ((!bD),())
def Oi:axd->Option axL:=fun(fI,Cl,_)=>(loop (σ:=axL) (ρ:=axE) (fun(iD,_)=>bif decide (iD<((fI.length:Nat):Int)) then(bb fI iD).bind fun eK=>(Oc (eK,Cl.1,())).bind fun(bW,_)=>bif bW then some (.inr (.inr (iD,()))) else some (.inl (IntKind.i64.wrap (iD+(1:Int)),())) else some (.inr (.inl ()))) ((0:Int),())).bind fun q=>match q with
 |.inl _=>(some ((-1:Int),()))
 |.inr r=>some r
def JN:axd->Option axK:=fun(fI,Cl,_)=>(Oi (fI,(Cl.1,()),())).bind fun(a9,_)=>some (decide (a9>=(0:Int)),())
def Jo:axk->Option axL:=fun(dN,mg,_)=>(EG (dN,())).bind fun(a9,_)=>(bif a9 !=(0:Int) then some (a9,()) else bif ((mg.length:Nat):Int)!=(((dN.1).length:Nat):Int) then some ((2:Int),()) else(JN (mg,(some dN,()),())).bind fun(bD,_)=>bif bD==false then(Js (mg,())).bind fun(bW,_)=>bif bW then some ((90:Int),()) else some ((0:Int),()) else some ((90:Int),()))
def EI:axL->Option axx:=fun(hF,_)=>(gG hF hF).bind fun lF=>(loop (σ:=axu) (ρ:=axx) (fun(iD,eJ,_)=>bif decide (iD<((((List.replicate lF []):List (List Bool)).length:Nat):Int)) then(gG hF hF).bind fun Rj=>(cV eJ.length iD).bind fun qN=>(cy eJ qN fun _=>some (eJ.set qN (List.replicate Rj false))).bind fun Ts=>some (.inl (IntKind.i64.wrap (iD+(1:Int)),Ts,())) else some (.inr (eJ,()))) ((0:Int),List.replicate lF [],())).bind fun(iU,_)=>some (iU,())
def EL:(List (List Bool)×Int×Int×Unit)->Option axx:=fun(fI,eG,q7,_)=>(bif eG !=q7 then(cV fI.length eG).bind fun gu=>(cV fI.length q7).bind fun qN=>((cy fI gu fun uS=>some uS).bind fun OC=>cV OC.length q7).bind fun h9=>(cy fI gu fun Vo=>(cy Vo h9 fun _=>some (Vo.set h9 true)).map fun sF=>fI.set gu sF).bind fun mr=>((cy mr qN fun zA=>some zA).bind fun aih=>cV aih.length eG).bind fun Gq=>(cy mr qN fun Vp=>(cy Vp Gq fun _=>some (Vp.set Gq true)).map fun Bk=>mr.set qN Bk).bind fun Tn=>some (Tn,()) else some (fI,()))
def Jp:(List (List Bool)×Int×Unit)->Option axH:=fun(fI,eG,_)=>(bb fI eG).bind fun eK=>(loop (σ:=axB) (ρ:=axH) (fun(gI,si,_)=>bif decide (gI<((eK.length:Nat):Int)) then Option.bind (α:=axH) ((bb eK gI).bind fun gm=>bif gm then(dA (si.length+([gI]).length)).bind fun _=>some ((si++[gI]),()) else some (si,())) fun(mh,_)=>some (.inl (IntKind.i64.wrap (gI+(1:Int)),mh,())) else some (.inr (si,()))) ((0:Int),[],())).bind fun(x4,_)=>some (x4,())
def EK:axx->Option axt:=fun(fI,_)=>(gG ((fI.length:Nat):Int) ((fI.length:Nat):Int)).bind fun se=>(loop (σ:=axb) (ρ:=axc) (fun(eJ,gI,FC,_)=>bif decide (eJ<((fI.length:Nat):Int)) then(Jp (fI,eJ,())).bind fun(dB,_)=>(cV (FC.1).length eJ).bind fun vo=>((cy FC.1 vo fun _=>some ((FC.1).set vo dB)).map fun avB=>(avB,FC.2)).bind fun avC=>some (.inl (IntKind.i64.wrap (eJ+(1:Int)),gI,avC,())) else some (.inr (gI,FC,()))) ((0:Int),([],()),(List.replicate se [],()),())).bind fun(_,ajW,_)=>some (ajW,())
def Jr:axk->Option axt:=fun(dN,o1,_)=>(EI (((o1.length:Nat):Int),())).bind fun(a9,_)=>(loop (σ:=axe) (ρ:=axf) (fun(eJ,gI,he,_)=>bif decide (eJ<((o1.length:Nat):Int)) then(bb o1 eJ).bind fun gm=>((some (0)).bind fun xH=>(hp eJ).bind fun xI=>(ia xH xI o1.length).map fun _=>(xH,xI)).bind fun mj=>(loop (σ:=axe) (ρ:=axf) (fun(jh,ov,vW,_)=>bif decide (jh<((((o1.take mj.2).drop mj.1).length:Nat):Int)) then Option.bind (α:=axf) ((bb ((o1.take mj.2).drop mj.1) jh).bind fun wm=>(B0 (dN,gm,wm,())).bind fun(AR,_)=>bif AR then(EL (vW,eJ,jh,())).bind fun(an3,_)=>some (ov,an3,()) else some (ov,vW,())) fun(yf,tV,_)=>
 some (.inl (IntKind.i64.wrap (jh+(1:Int)),yf,tV,())) else some (.inr (ov,vW,()))) ((0:Int),gI,he,())).bind fun(vX,yg,_)=>some (.inl (IntKind.i64.wrap (eJ+(1:Int)),vX,yg,())) else some (.inr (gI,he,()))) ((0:Int),([],()),a9,())).bind fun(_,A1,_)=>(EK (A1,())).bind fun(Sc,_)=>some (Sc,())
def EJ:axk->Option axr:=fun(dN,mg,_)=>(Jo (dN,mg,())).bind fun(a9,_)=>(bif a9 !=(0:Int) then some (([],()),a9,()) else(Jr (dN,mg,())).bind fun(bD,_)=>some (bD,(0:Int),()))
def BW:axJ->Option axL:=fun(cA,sE,_)=>(wW (cA,())).bind fun(a9,_)=>(wW (sE,())).bind fun(bD,_)=>(bif a9 then bif bD then some ((0:Int),()) else some ((-1:Int),()) else bif bD then some ((1:Int),()) else bif decide (cA<sE) then some ((-1:Int),()) else bif decide (cA>sE) then some ((1:Int),()) else some ((0:Int),()))
def I6:axH->Option axL:=fun(ab1,_)=>(loop (σ:=axL) (ρ:=axE) (fun(kG,_)=>bif decide (kG<((ab1.length:Nat):Int)) then(bb ab1 kG).bind fun gk=>bif gk !=(0:Int) then some (.inr (.inr (gk,()))) else some (.inl (IntKind.i64.wrap (kG+(1:Int)),())) else some (.inr (.inl ()))) ((0:Int),())).bind fun q=>match q with
 |.inl _=>(some ((0:Int),()))
 |.inr r=>some r
abbrev bO:Type:=(List Int)
abbrev gp:Type:=(bO×Unit)
abbrev dX:Type:=(Bool×gp)
abbrev cb:Type:=axL
abbrev d7:Type:=(Bool×(dX×cb))
abbrev TX:Type:=(bO×(bO×gp))
abbrev rp:Type:=(List d7)
abbrev mF:Type:=(List (Int×(Int×cb)))
abbrev nT:Type:=(List bO×(List bO×(List (Option (List (Int×d7)×Nat))×(List bO×Unit))))
abbrev cR:Type:=(Int×(Int×TX))
abbrev gV:Type:=axK
abbrev qn:Type:=(Int×((List bO×Unit)×(List (Option (List (Int×d7)×Nat))×Unit)))
abbrev pk:Type:=(bO×TX)
abbrev h0:Type:=(d7×Unit)
abbrev fL:Type:=(dX×Unit)
abbrev IA:Type:=(d7×d7×Unit)
abbrev kh:Type:=(Int×bO×Unit)
abbrev ro:Type:=(List Bool)
abbrev Nt:Type:=(pk×Int×Int×Unit)
abbrev sU:Type:=(Unit⊕gV)
abbrev lj:Type:=(mF×Unit)
abbrev uz:Type:=(Int×mF×Unit)
abbrev oM:Type:=(bO×bO×Unit)
abbrev pn:Type:=(dX×dX×Unit)
abbrev rq:Type:=(Unit⊕cb)
abbrev rr:Type:=(bO×Int×Unit)
abbrev qo:Type:=axJ
abbrev Nu:Type:=(Int×Int×mF×Unit)
abbrev wL:Type:=(Bool×(dX×(Int×gV)))
abbrev wM:Type:=(Int×Int×bO×Unit)
abbrev ru:Type:=(dX×Int×Unit)
abbrev oN:Type:=(cR×Unit)
def s0:gp->Option gp:=fun(bV,_)=>(loop (σ:=cb) (ρ:=cb) (fun(xW,_)=>Option.bind (α:=Unit⊕(cb⊕cb)) (bif decide (xW>0)==true then(bb bV (aY (xW-1))).bind fun eH=>bif eH==0 then some (.inl ()) else some (.inr (.inr (xW,()))) else some (.inr (.inr (xW,())))) fun q=>match q with
 |.inl _=>(some (.inl (aY (xW-1),())))
 |.inr r=>some r) (aW bV,())).bind fun(xX,_)=>(loop (σ:=kh) (ρ:=gp) (fun(iy,x4,_)=>bif decide (iy<xX) then(bb bV iy).bind fun hT=>(dA (x4.length+([hT]).length)).bind fun _=>some (.inl (bR iy,(x4++[hT]),())) else some (.inr (x4,()))) (0,[],())).bind fun(vL,_)=>some (vL,())
def pv:(Bool×bO×Unit)->Option fL:=fun(iA,oj,_)=>(s0 (oj,())).bind fun(a9,_)=>(bif iA==true then some ((decide (aW a9>0),(a9,())),()) else some ((false,(a9,())),()))
def Ca:cb->Option fL:=fun(hF,_)=>Option.bind (α:=(Int×dX×Unit)) (bif decide (hF<0) then some (bo (bo (aY (0-bR hF))+1),(false,([],())),()) else some (bo hF,(false,([],())),())) fun(HN,_,_)=>(ec IntKind.u64 HN 32).bind fun eK=>(pv (decide (hF<0),[dF HN,dF eK],())).bind fun(bW,_)=>some (bW,())
def w2:fL->Option fL:=fun(bt,_)=>(pv (bt.1,bt.2.1,())).bind fun(bn,_)=>some (bn,())
def Cb:Unit->Option h0:=fun _=>some ((true,((false,([],())),((0:Int),()))),())
def B7:cb->Option cb:=fun(cA,_)=>(bif cA==0 then some (32,()) else(ec IntKind.u32 (dF (eg IntKind.u32 cA (dF (0-cA))*125613361)) 27).bind fun dL=>(bb sY dL).bind fun gk=>some (aY gk,()))
def uL:fL->Option cb:=fun(bt,_)=>(s0 (bt.2.1,())).bind fun(bn,_)=>(loop (σ:=cb) (ρ:=rq) (fun(eE,_)=>bif decide (eE<aW bn) then(bb bn eE).bind fun eK=>bif eK !=0 then(bb bn eE).bind fun e8=>(B7 (e8,())).bind fun(cE,_)=>some (.inr (.inr (aY (aY (32*eE)+cE),()))) else some (.inl (bR eE,())) else some (.inr (.inl ()))) (0,())).bind fun q=>match q with
 |.inl _=>(some (0,()))
 |.inr r=>some r
def B9:fL->Option fL:=fun(bt,_)=>(pv (false,bt.2.1,())).bind fun(bn,_)=>some (bn,())
def J2:rr->Option gp:=fun(bV,dc,_)=>(j8 IntKind.i64 dc 32).bind fun gk=>(gG gk gk).bind fun o3=>(loop (σ:=wM) (ρ:=kh) (fun(IU,Qn,RV,_)=>bif decide (Qn<aW bV) then(bb bV Qn).bind fun hH=>(jB dc 32).bind fun dq=>(iE IntKind.u64 (bo hH) dq).bind fun hT=>(dA (RV.length+([dF (fr IntKind.u64 IU hT)]).length)).bind fun _=>(ec IntKind.u64 (fr IntKind.u64 IU hT) 32).bind fun hU=>some (.inl (hU,bR Qn,(RV++[dF (fr IntKind.u64 IU hT)]),())) else some (.inr (IU,RV,()))) (0,0,List.replicate o3 (0:Int),())).bind fun(Ew,o6,_)=>(dA (o6.length+([dF Ew]).length)).bind fun _=>some ((o6++[dF Ew]),())
def E2:rr->Option (bO×Bool×Unit):=fun(bV,dc,_)=>(loop (σ:=axI) (ρ:=gV) (fun(QU,Lx,_)=>Option.bind (α:=Unit⊕(axI⊕gV)) ((j8 IntKind.i64 dc 32).bind fun kb=>bif decide (Lx<kb)==true then bif decide (Lx<aW bV) then some (.inl ()) else some (.inr (.inr (QU,()))) else some (.inr (.inr (QU,())))) fun q=>match q with
 |.inl _=>(Option.bind (α:=gV) (bif QU==false then(bb bV Lx).bind fun wm=>some ((wm !=0),()) else some (true,())) fun(anR,_)=>some (.inl (anR,bR Lx,())))
 |.inr r=>some r) (false,0,())).bind fun(anS,_)=>(jB dc 32).bind fun sD=>(j8 IntKind.i64 dc 32).bind fun wo=>(loop (σ:=(Bool×Int×bO×Unit)) (ρ:=(Bool×bO×Unit)) (fun(QV,Ak,AJ,_)=>bif decide (Ak<aW bV) then Option.bind (α:=(Bool×bO×Unit)) ((bb bV Ak).bind fun jG=>Option.bind (α:=kh) (bif decide (bR Ak<aW bV) then(bb bV (bR Ak)).bind fun HY=>(iE IntKind.u64 (bo HY) 32).bind fun Th=>some (fr IntKind.u64 (bo jG) Th,AJ,()) else some (bo jG,AJ,())) fun(ave,Dm,_)=>Option.bind (α:=(Bool×bO×Unit)) ((j8 IntKind.i64 dc 32).bind fun p7=>bif (Ak==p7)==true then(bb bV Ak).bind fun q9=>(iE IntKind.u32 1 sD).bind fun Bg=>bif eg IntKind.u32 q9 (dF (Bg-1))!=0 then some (true,Dm,()) else some (QV,Dm,()) else some (QV,Dm,())) fun(anT,Mj,_)=>(ec IntKind.u64 ave sD).bind fun DP=>(dA (Mj.length+([dF DP]).length)).bind fun _=>some (anT,(Mj++[dF DP]),())) fun(anU,arI,_)=>some (.inl (anU,bR Ak,arI,())) else
 some (.inr (QV,AJ,()))) (anS,wo,[],())).bind fun(anW,arJ,_)=>some (arJ,anW,())
def JY:fL->Option fL:=fun(bt,_)=>(pv ((!bt.1),bt.2.1,())).bind fun(bn,_)=>some (bn,())
def J0:oM->Option gp:=fun(bt,cS,_)=>(loop (σ:=wM) (ρ:=kh) (fun(NU,ek,vO,_)=>bif decide (ek<(if(aW cS)>aW bt then aW cS else aW bt)) then Option.bind (α:=kh) (Option.bind (α:=kh) (bif decide (ek<aW bt) then(bb bt ek).bind fun eH=>some (bo (NU+bo eH),vO,()) else some (NU,vO,())) fun(UR,mh,_)=>Option.bind (α:=kh) (bif decide (ek<aW cS) then(bb cS ek).bind fun dq=>some (bo (UR+bo dq),mh,()) else some (UR,mh,())) fun(NS,vL,_)=>(dA (vL.length+([dF NS]).length)).bind fun _=>(ec IntKind.u64 NS 32).bind fun c1=>some (c1,(vL++[dF NS]),())) fun(NT,qR,_)=>some (.inl (NT,bR ek,qR,())) else some (.inr (NU,vO,()))) (0,0,[],())).bind fun(nW,sh,_)=>(dA (sh.length+([dF nW]).length)).bind fun _=>some ((sh++[dF nW]),())
def J1:oM->Option cb:=fun(bt,cS,_)=>(bif aW bt !=aW cS then bif decide (aW bt<aW cS) then some ((-1:Int),()) else some (1,()) else((loop (σ:=cb) (ρ:=rq) (fun(eE,_)=>bif decide (eE>=0) then(bb bt eE).bind fun eK=>(bb cS eE).bind fun e8=>bif eK !=e8 then(bb bt eE).bind fun eH=>(bb cS eE).bind fun gm=>bif decide (eH<gm) then some (.inr (.inr ((-1:Int),()))) else some (.inr (.inr (1,()))) else some (.inl (aY (eE-1),())) else some (.inr (.inl ()))) (aY (aW bt-1),())).bind fun q=>match q with
 |.inl _=>(some (0,()))
 |.inr r=>some r))
def E3:oM->Option gp:=fun(bt,cS,_)=>(loop (σ:=wM) (ρ:=gp) (fun(UO,ek,vO,_)=>bif decide (ek<aW bt) then Option.bind (α:=kh) ((bb bt ek).bind fun eH=>Option.bind (α:=kh) (bif decide (ek<aW cS) then(bb cS ek).bind fun gm=>some (bo (bo (bo eH-UO)-bo gm),vO,()) else some (bo (bo eH-UO),vO,())) fun(SV,x4,_)=>(dA (x4.length+([dF SV]).length)).bind fun _=>(ec IntKind.u64 SV 63).bind fun hT=>some (hT,(x4++[dF SV]),())) fun(agS,x2,_)=>some (.inl (agS,bR ek,x2,())) else some (.inr (vO,()))) (0,0,[],())).bind fun(o6,_)=>some (o6,())
def zo:pn->Option fL:=fun(bt,cS,_)=>(s0 (bt.2.1,())).bind fun(a9,_)=>(s0 (cS.2.1,())).bind fun(bD,_)=>(bif bt.1==cS.1 then(J0 (a9,bD,())).bind fun(bW,_)=>(pv (bt.1,bW,())).bind fun(cE,_)=>some (cE,()) else(J1 (a9,bD,())).bind fun(dB,_)=>bif decide (dB>=0) then(E3 (a9,bD,())).bind fun(fj,_)=>(pv (bt.1,fj,())).bind fun(gO,_)=>some (gO,()) else(E3 (bD,a9,())).bind fun(hd,_)=>(pv (cS.1,hd,())).bind fun(ij,_)=>some (ij,()))
def JZ:pn->Option fL:=fun(bt,cS,_)=>(JY (cS,())).bind fun(a9,_)=>(zo (bt,a9,())).bind fun(bD,_)=>some (bD,())
def rH:ru->Option fL:=fun(bt,dc,_)=>(w2 (bt,())).bind fun(a9,_)=>(bif decide (dc>=0) then(J2 (a9.2.1,dc,())).bind fun(bD,_)=>(pv (a9.1,bD,())).bind fun(bW,_)=>some (bW,()) else(E2 (a9.2.1,aY (0-dc),())).bind fun(cE,dB,_)=>(pv (a9.1,cE,())).bind fun(fj,_)=>Option.bind (α:=pn) (Option.bind (α:=(Bool×dX×dX×Unit)) (bif a9.1==true then some (dB,(false,([],())),fj,()) else some (false,(false,([],())),fj,())) fun(iU,pY,vL,_)=>bif iU then(Ca (1,())).bind fun(k6,_)=>(JZ (vL,k6,())).bind fun(j9,_)=>some (pY,j9,()) else some (pY,vL,())) fun(_,Hi,_)=>some (Hi,()))
def Cd:ru->Option fL:=fun(bV,dc,_)=>(loop (σ:=(Int×dX×dX×Unit)) (ρ:=(Int×dX×dX×Unit)) (fun(pS,YH,gI,_)=>bif decide (pS>1048576) then(rH (YH,(-1048576:Int),())).bind fun(cE,_)=>some (.inl (aY (pS-1048576),cE,gI,())) else some (.inr (pS,YH,gI,()))) (dc,bV,(false,([],())),())).bind fun(xX,a6,_,_)=>(rH (a6,aY (0-xX),())).bind fun(hd,_)=>some (hd,())
def E0:fL->Option cb:=fun(bt,_)=>(s0 (bt.2.1,())).bind fun(bn,_)=>(bif aW bn==0 then some (0,()) else(bb bn (aY (aW bn-1))).bind fun gk=>(B6 (gk,())).bind fun(bD,_)=>some (aY (aY (32*aY (aW bn-1))+bD),()))
def uM:ru->Option h0:=fun(LX,s3,_)=>(w2 (LX,())).bind fun(a9,_)=>(bif aW a9.2.1==0 then some ((false,((false,([],())),((0:Int),()))),()) else bif decide (s3>65536) then(Cb ()).bind fun(bD,_)=>some (bD,()) else((uL (a9,())).bind fun(bW,_)=>(B9 (a9,())).bind fun(cE,_)=>(Cd (cE,bW,())).bind fun(dB,_)=>Option.bind (α:=(d7×dX×Unit)⊕h0) (Option.bind (α:=(Bool×d7×dX×Unit)) (bif decide (aY (s3+bW)<(-65536:Int))==false then(E0 (dB,())).bind fun(fj,_)=>some (decide (aY (aY (s3+bW)+fj)>65536),(false,((false,([],())),((0:Int),()))),dB,()) else some (true,(false,((false,([],())),((0:Int),()))),dB,())) fun(iU,pY,aoc,_)=>bif iU then(Cb ()).bind fun(k6,_)=>some (.inr (k6,())) else some (.inl (pY,aoc,()))) fun q=>match q with
 |.inl (_,aoe,_)=>(some ((false,((LX.1,aoe.2),(aY (s3+bW),()))),()))
 |.inr r=>some r))
def E4:cb->Option h0:=fun(hF,_)=>(Ca (hF,())).bind fun(bn,_)=>(uM (bn,0,())).bind fun(a9,_)=>some (a9,())
def Cc:h0->Option h0:=fun(i6,_)=>(bif i6.1 then(Cb ()).bind fun(bn,_)=>some (bn,()) else(uM (i6.2.1,i6.2.2.1,())).bind fun(a9,_)=>some (a9,()))
def w3:fL->Option cb:=fun(bt,_)=>(w2 (bt,())).bind fun(bn,_)=>(bif aW bn.2.1==0 then some (0,()) else bif bn.1 then some ((-1:Int),()) else some (1,()))
def uN:axI->Option cb:=fun(iA,Cl,_)=>(bif iA then some (fr IntKind.u64 Cl 9223372036854775808,()) else some (Cl,()))
def E6:axI->Option cb:=fun(iA,me,_)=>Option.bind (α:=Unit⊕cb) (Option.bind (α:=gV) (bif (me==3)==false then bif (me==1)==true then bif (!iA)==false then bif (me==2)==true then some (iA,()) else some (false,()) else some (true,()) else bif (me==2)==true then some (iA,()) else some (false,()) else some (true,())) fun(iD,_)=>bif iD then(uN (iA,9218868437227405311,())).bind fun(bD,_)=>some (.inr (bD,())) else some (.inl ())) fun q=>match q with
 |.inl _=>((uN (iA,9218868437227405312,())).bind fun(bW,_)=>some (bW,()))
 |.inr r=>some r
def E1:ru->Option gV:=fun(bt,dc,_)=>(s0 (bt.2.1,())).bind fun(a9,_)=>(E2 (a9,dc,())).bind fun(_,bW,_)=>some (bW,())
def J6:(Bool×Int×Bool×Int×Unit)->Option gV:=fun(iA,WF,apC,Rc,_)=>(bif Rc==1 then some (iA,()) else bif Rc==2 then some ((!iA),()) else bif Rc==3 then some (false,()) else bif decide (WF>0)==false then bif (WF==0)==true then some (apC,()) else some (false,()) else some (true,()))
def J4:(Bool×dX×Int×Bool×Int×Unit)->Option fL:=fun(iA,oj,pS,L4,G1,_)=>(Cd (oj,pS,())).bind fun(cE,_)=>(E1 (oj,pS,())).bind fun(dB,_)=>Option.bind (α:=pn⊕fL) (Option.bind (α:=(Bool×dX×dX×Unit)) (bif (!dB)==true then some ((!L4),(false,([],())),cE,()) else some (false,(false,([],())),cE,())) fun(lH,iU,aat,_)=>bif lH then some (.inr (aat,())) else some (.inl (iU,aat,()))) fun q=>match q with
 |.inl (jh,R6,_)=>(Option.bind (α:=(Int×dX×dX×Unit)) (bif decide (pS>0) then(Cd (oj,aY (pS-1),())).bind fun(j9,_)=>Option.bind (α:=(Bool×dX×dX×Unit)) ((uL (j9,())).bind fun(k7,_)=>bif (k7==0)==true then(w3 (j9,())).bind fun(AR,_)=>some ((AR !=0),jh,R6,()) else some (false,jh,R6,())) fun(A0,yf,Mu,_)=>bif A0 then bif L4==false then(E1 (oj,aY (pS-1),())).bind fun(Sa,_)=>bif Sa then some (1,yf,Mu,()) else some (0,yf,Mu,()) else some (1,yf,Mu,()) else some ((-1:Int),yf,Mu,()) else some ((-1:Int),jh,R6,())) fun(akI,abb,Mv,_)=>Option.bind (α:=(Bool×dX×dX×Unit)) ((w3 (Mv,())).bind fun(Sc,_)=>bif (Sc !=0)==true then(uL (Mv,())).bind fun(Sd,_)=>some ((Sd==0),abb,Mv,()) else some (false,abb,Mv,())) fun(apB,yh,x7,_)=>Option.bind (α:=pn) ((J6 (iA,akI,apB,G1,())).bind fun(ast,_)=>
  bif ast then(Ca (1,())).bind fun(Ho,_)=>(zo (x7,Ho,())).bind fun(ya,_)=>some (yh,ya,()) else some (yh,x7,())) fun(_,asq,_)=>some (asq,()))
 |.inr r=>some r
def JX:fL->Option axG:=fun(bt,_)=>(w2 (bt,())).bind fun(bn,_)=>(bif decide (aW bn.2.1>2) then some (0,false,()) else(loop (σ:=(Int×Int×dX×Unit)) (ρ:=(Int×dX×Unit)) (fun(yo,ek,yZ,_)=>bif decide (ek<aW yZ.2.1) then(bb yZ.2.1 ek).bind fun eH=>(iE IntKind.u64 (bo eH) (aY (32*ek))).bind fun gm=>some (.inl (fr IntKind.u64 yo gm,bR ek,yZ,())) else some (.inr (yo,yZ,()))) (0,0,bn,())).bind fun(M3,Nw,_)=>bif Nw.1 then bif decide (M3>9223372036854775808) then some (0,false,()) else some (aY (aY (0-aY (bo (M3-1)))-1),true,()) else bif decide (M3>9223372036854775807) then some (0,false,()) else some (aY M3,true,()))
def J9:(Bool×dX×Int×Bool×Int×Unit)->Option cb:=fun(iA,oj,oO,L4,G1,_)=>(E0 (oj,())).bind fun(cE,_)=>(bif decide (aY (aY (oO+cE)-1)>=1024) then(E6 (iA,G1,())).bind fun(dB,_)=>some (dB,()) else(Option.bind (α:=fL) (bif decide ((if(-1074:Int)>aY (aY (aY (oO+cE)-1)-52) then(-1074:Int) else aY (aY (aY (oO+cE)-1)-52))>=oO) then(J4 (iA,oj,aY ((if(-1074:Int)>aY (aY (aY (oO+cE)-1)-52) then(-1074:Int) else aY (aY (aY (oO+cE)-1)-52))-oO),L4,G1,())).bind fun(fj,_)=>some (fj,()) else(rH (oj,aY (oO-(if(-1074:Int)>aY (aY (aY (oO+cE)-1)-52) then(-1074:Int) else aY (aY (aY (oO+cE)-1)-52))),())).bind fun(gO,_)=>some (gO,())) fun(Rk,_)=>(JX (Rk,())).bind fun(ij,_,_)=>Option.bind (α:=qo) (bif ij==9007199254740992 then some (bR (if(-1074:Int)>aY (aY (aY (oO+cE)-1)-52) then(-1074:Int) else aY (aY (aY (oO+cE)-1)-52)),4503599627370496,()) else
 some ((if(-1074:Int)>aY (aY (aY (oO+cE)-1)-52) then(-1074:Int) else aY (aY (aY (oO+cE)-1)-52)),ij,())) fun(abU,LH,_)=>Option.bind (α:=Unit⊕cb) (Option.bind (α:=gV) (bif decide (LH>=4503599627370496)==true then some (decide (aY (abU+53)>1024),()) else some (false,())) fun(pZ,_)=>bif pZ then(E6 (iA,G1,())).bind fun(oq,_)=>some (.inr (oq,())) else bif decide (LH>=4503599627370496) then(iE IntKind.u64 (bo (aY (abU+1075))) 52).bind fun sD=>(uN (iA,fr IntKind.u64 sD (bo (aY (LH-4503599627370496))),())).bind fun(AS,_)=>some (.inr (AS,())) else some (.inl ())) fun q=>match q with
 |.inl _=>((uN (iA,bo LH,())).bind fun(Sa,_)=>some (Sa,()))
 |.inr r=>some r))
def E5:(d7×Int×Unit)->Option cb:=fun(i6,me,_)=>(Cc (i6,())).bind fun(a9,_)=>(bif a9.1 then some (9221120237041090560,()) else(w3 (a9.2.1,())).bind fun(bD,_)=>bif bD==0 then some (0,()) else(B9 (a9.2.1,())).bind fun(bW,_)=>(J9 (a9.2.1.1,bW,a9.2.2.1,false,me,())).bind fun(cE,_)=>some (cE,()))
def zp:qo->Option cb:=fun(hF,me,_)=>(E4 (hF,())).bind fun(a9,_)=>(E5 (a9,me,())).bind fun(bD,_)=>some (bD,())
def BZ:cb->Option qo:=fun(iv,_)=>(ec IntKind.u64 iv 52).bind fun dL=>some (aY (eg IntKind.u64 dL 2047),eg IntKind.u64 iv 4503599627370495,())
def zg:cb->Option gV:=fun(iv,_)=>(BZ (iv,())).bind fun(bn,_,_)=>some ((bn !=2047),())
def it:gp->Option gp:=fun(fC,_)=>(loop (σ:=cb) (ρ:=cb) (fun(dc,_)=>Option.bind (α:=Unit⊕(cb⊕cb)) (bif decide (dc>0)==true then(bb fC (aY (dc-1))).bind fun gk=>bif gk==0 then some (.inl ()) else some (.inr (.inr (dc,()))) else some (.inr (.inr (dc,())))) fun q=>match q with
 |.inl _=>(some (.inl (aY (dc-1),())))
 |.inr r=>some r) (aW fC,())).bind fun(AE,_)=>((some (0)).bind fun GF=>(hp AE).bind fun GG=>(ia GF GG fC.length).map fun _=>(GF,GG)).bind fun AO=>some (((fC.take AO.2).drop AO.1),())
def mJ:(Bool×bO×Unit)->Option fL:=fun(iA,aor,_)=>(it (aor,())).bind fun(a9,_)=>(bif aW a9==0 then some ((false,(([]:bO),())),()) else some ((iA,(a9,())),()))
def B2:cb->Option fL:=fun(hF,_)=>Option.bind (α:=(Int×dX×Unit)) (bif decide (hF<0) then some (bo (0-bo hF),(false,([],())),()) else some (bo hF,(false,([],())),())) fun(HN,_,_)=>(ec IntKind.u64 HN 32).bind fun eK=>(mJ (decide (hF<0),[dF (eg IntKind.u64 HN 4294967295),dF eK],())).bind fun(bW,_)=>some (bW,())
def Jm:cb->Option gV:=fun(iv,_)=>some ((eg IntKind.u64 iv 9223372036854775808 !=0),())
def zn:gp->Option gp:=fun(fI,_)=>qP fI.length (some ([],())) ((dA (([]:bO).length+fI.length)).bind fun _=>some (([]++fI),()))
def wY:fL->Option fL:=fun(bt,_)=>(zn (bt.2.1,())).bind fun(bn,_)=>(mJ ((!bt.1),bn,())).bind fun(a9,_)=>some (a9,())
def ED:Unit->Option h0:=fun _=>some ((true,((false,([],())),((0:Int),()))),())
def Jw:fL->Option fL:=fun(bt,_)=>(zn (bt.2.1,())).bind fun(bn,_)=>(mJ (bt.1,bn,())).bind fun(a9,_)=>some (a9,())
def rG:fL->Option cb:=fun(bt,_)=>(it (bt.2.1,())).bind fun(bn,_)=>(bif aW bn==0 then some (0,()) else bif bt.1 then some ((-1:Int),()) else some (1,()))
def EO:fL->Option cb:=fun(bt,_)=>(loop (σ:=cb) (ρ:=rq) (fun(kG,_)=>bif decide (kG<aW bt.2.1) then(bb bt.2.1 kG).bind fun gk=>bif gk !=0 then(B7 (gk,())).bind fun(bD,_)=>some (.inr (.inr (aY (aY (kG*32)+bD),()))) else some (.inl (bR kG,())) else some (.inr (.inl ()))) (0,())).bind fun q=>match q with
 |.inl _=>(some (0,()))
 |.inr r=>some r
def B4:gp->Option cb:=fun(bt,_)=>(bif aW bt==0 then some (0,()) else(bb bt (aY (aW bt-1))).bind fun dL=>(B6 (dL,())).bind fun(a9,_)=>some (aY (aY (aY (aW bt-1)*32)+a9),()))
def uJ:fL->Option cb:=fun(bt,_)=>(it (bt.2.1,())).bind fun(bn,_)=>(B4 (bn,())).bind fun(a9,_)=>some (a9,())
def zm:rr->Option gp:=fun(bt,dc,_)=>(bif aW bt==0 then some ([],()) else(j8 IntKind.i64 dc 32).bind fun oB=>(jB dc 32).bind fun jG=>(gG (bR (aY (oB+aW bt))) (bR (aY (oB+aW bt)))).bind fun ao4=>(loop (σ:=kh) (ρ:=gp) (fun(qW,Hj,_)=>bif decide (qW<aW bt) then(bb bt qW).bind fun q8=>(iE IntKind.u64 (bo q8) (bo jG)).bind fun p7=>rd Hj (aY (oB+qW)) fun avo=>wr Hj (aY (oB+qW)) (fr IntKind.u32 avo (dF (eg IntKind.u64 p7 4294967295))) fun avF=>(ec IntKind.u64 p7 32).bind fun lM=>wr avF (bR (aY (oB+qW))) (dF lM) fun Bm=>some (.inl (bR qW,Bm,())) else some (.inr (Hj,()))) (0,List.replicate ao4 (0:Int),())).bind fun(arK,_)=>(it (arK,())).bind fun(Sf,_)=>some (Sf,()))
def Od:cb->Option gV:=fun(cA,_)=>some ((cA !=0),())
def Oj:(bO×Unit×Unit)->Option cb:=fun(fI,_,_)=>(loop (σ:=cb) (ρ:=rq) (fun(iD,_)=>bif decide (iD<aW fI) then(bb fI iD).bind fun eK=>(Od (eK,())).bind fun(bW,_)=>bif bW then some (.inr (.inr (iD,()))) else some (.inl (bR iD,())) else some (.inr (.inl ()))) (0,())).bind fun q=>match q with
 |.inl _=>(some ((-1:Int),()))
 |.inr r=>some r
def ER:(bO×Unit×Unit)->Option gV:=fun(fI,_,_)=>(Oj (fI,(),())).bind fun(a9,_)=>some (decide (a9>=0),())
def B3:rr->Option (bO×Bool×Unit):=fun(bt,dc,_)=>(j8 IntKind.i64 dc 32).bind fun q8=>(jB dc 32).bind fun p7=>(bif decide (q8>=aW bt) then some ([],decide (aW bt>0),()) else Option.bind (α:=gV) (((some (0)).bind fun Yg=>(hp q8).bind fun Yh=>(ia Yg Yh bt.length).map fun _=>(Yg,Yh)).bind fun aar=>(ER (((bt.take aar.2).drop aar.1),(),())).bind fun(tO,_)=>bif tO==false then(bb bt q8).bind fun DP=>(iE IntKind.u32 1 (bo p7)).bind fun Ti=>some ((eg IntKind.u32 DP (dF (Ti-1))!=0),()) else some (true,())) fun(anV,_)=>(gG (aY (aW bt-q8)) (aY (aW bt-q8))).bind fun Y5=>(loop (σ:=kh) (ρ:=gp) (fun(DA,RS,_)=>bif decide (DA<aW (List.replicate Y5 (0:Int))) then Option.bind (α:=gp) ((bb bt (aY (q8+DA))).bind fun ra=>Option.bind (α:=kh) (bif decide (bR (aY (q8+DA))<aW bt) then(bb bt (bR (aY (q8+DA)))).bind fun avp=>(iE IntKind.u64 (bo avp) 32).bind fun avq=>some (fr IntKind.u64 (bo ra) avq,RS,()) else some (bo ra,RS,())) fun(aul,arM,_)=>
 (ec IntKind.u64 aul (bo p7)).bind fun avr=>wr arM DA (dF (eg IntKind.u64 avr 4294967295)) fun yz=>some (yz,())) fun(RU,_)=>some (.inl (bR DA,RU,())) else some (.inr (RS,()))) (0,List.replicate Y5 (0:Int),())).bind fun(arO,_)=>(it (arO,())).bind fun(asv,_)=>some (asv,anV,()))
def zl:oM->Option gp:=fun(bt,cS,_)=>Option.bind (α:=oM) (bif decide (aW bt<aW cS) then some (cS,bt,()) else some (bt,cS,())) fun(Nv,Uz,_)=>(gG 0 (bR (aW Nv))).bind fun Rj=>(loop (σ:=wM) (ρ:=kh) (fun(NW,hf,mh,_)=>bif decide (hf<aW Nv) then Option.bind (α:=kh) ((bb Nv hf).bind fun dq=>Option.bind (α:=kh) (bif decide (hf<aW Uz) then(bb Uz hf).bind fun hT=>some (bo (bo (bo dq+NW)+bo hT),mh,()) else some (bo (bo dq+NW),mh,())) fun(SU,x2,_)=>(dA (x2.length+([dF (eg IntKind.u64 SU 4294967295)]).length)).bind fun _=>(ec IntKind.u64 SU 32).bind fun kb=>some (kb,(x2++[dF (eg IntKind.u64 SU 4294967295)]),())) fun(ahc,Hi,_)=>some (.inl (ahc,bR hf,Hi,())) else some (.inr (NW,mh,()))) (0,0,List.replicate Rj (0:Int),())).bind fun(UT,Mi,_)=>(dA (Mi.length+([dF UT]).length)).bind fun _=>(it ((Mi++[dF UT]),())).bind fun(AS,_)=>some (AS,())
def uK:ru->Option ru:=fun(bt,dc,_)=>Option.bind (α:=fL⊕ru) (Option.bind (α:=(Bool×dX×Unit)) (bif decide (dc<(-1048576:Int))==false then some (decide (dc>1048576),(false,([],())),()) else some (true,(false,([],())),())) fun(iD,eJ,_)=>bif iD then some (.inr ((false,(([]:bO),())),3,())) else some (.inl (eJ,()))) fun q=>match q with
 |.inl (gI,_)=>((it (bt.2.1,())).bind fun(cE,_)=>bif decide (dc>=0) then(zm (cE,dc,())).bind fun(dB,_)=>(mJ (bt.1,dB,())).bind fun(fj,_)=>some (fj,0,()) else(B3 (cE,aY (0-dc),())).bind fun(gO,hd,_)=>Option.bind (α:=(bO×dX×Unit)) (Option.bind (α:=(Bool×dX×Unit)) (bif bt.1==true then some (hd,gI,()) else some (false,gI,())) fun(jh,ov,_)=>bif jh then(zl (gO,[1],())).bind fun(j9,_)=>some (j9,ov,()) else some (gO,ov,())) fun(qR,_,_)=>(mJ (bt.1,qR,())).bind fun(oq,_)=>some (oq,0,()))
 |.inr r=>some r
def EE:ru->Option fL:=fun(bt,dc,_)=>(loop (σ:=(Int×dX×dX×Unit)) (ρ:=(Int×dX×dX×Unit)) (fun(pS,El,gI,_)=>bif decide (pS>1048576) then(uK (El,(-1048576:Int),())).bind fun(cE,_,_)=>some (.inl (aY (pS-1048576),cE,gI,())) else some (.inr (pS,El,gI,()))) (dc,bt,(false,([],())),())).bind fun(ao9,Nw,_,_)=>(uK (Nw,aY (0-ao9),())).bind fun(ij,_,_)=>some (ij,())
def rF:h0->Option (d7×Bool×Unit):=fun(i6,_)=>(bif i6.1 then(ED ()).bind fun(bn,_)=>some (bn,false,()) else(Jw (i6.2.1,())).bind fun(a9,_)=>(rG (a9,())).bind fun(bD,_)=>bif bD==0 then some ((false,((false,([],())),((0:Int),()))),true,()) else((EO (a9,())).bind fun(bW,_)=>Option.bind (α:=(d7×dX×Unit)⊕(d7×Bool×Unit)) (Option.bind (α:=(Bool×d7×dX×Unit)) ((uJ (a9,())).bind fun(cE,_)=>bif decide (i6.2.2.1>aY (65536-cE))==false then some (decide (i6.2.2.1<aY ((-65536:Int)-bW)),(false,((false,([],())),((0:Int),()))),a9,()) else some (true,(false,((false,([],())),((0:Int),()))),a9,())) fun(hf,lH,GU,_)=>bif hf then(ED ()).bind fun(hd,_)=>some (.inr (hd,false,())) else some (.inl (lH,GU,()))) fun q=>match q with
 |.inl (_,aov,_)=>((EE (aov,bW,())).bind fun(j9,_)=>some ((false,(j9,(aY (i6.2.2.1+bW),()))),true,()))
 |.inr r=>some r))
def BX:ru->Option h0:=fun(LX,s3,_)=>(rF ((false,(LX,(s3,()))),())).bind fun(a9,_,_)=>some (a9,())
def zh:cb->Option h0:=fun(iv,_)=>(BZ (iv,())).bind fun(bn,a9,_)=>Option.bind (α:=(Int×Int×d7×Unit)⊕h0) (bif bn==2047 then some (.inr ((true,((false,([],())),((0:Int),()))),())) else bif bn==0 then some (.inl ((-1074:Int),a9,(false,((false,([],())),((0:Int),()))),())) else some (.inl (aY (bn-1075),fr IntKind.u64 a9 4503599627370496,(false,((false,([],())),((0:Int),()))),()))) fun q=>match q with
 |.inl (ajp,ajM,he,_)=>((B2 (aY ajM,())).bind fun(dB,_)=>Option.bind (α:=(d7×dX×Unit)) ((Jm (iv,())).bind fun(fj,_)=>bif fj then(wY (dB,())).bind fun(gO,_)=>some (he,gO,()) else some (he,dB,())) fun(_,aou,_)=>(BX (aou,ajp,())).bind fun(k6,_)=>some (k6,()))
 |.inr r=>some r
def Jf:IA->Option (d7×d7×Bool×Unit):=fun(bt,cS,_)=>(rF (bt,())).bind fun(a9,bD,_)=>(rF (cS,())).bind fun(bW,cE,_)=>(bif bD==true then some (a9,bW,cE,()) else some (a9,bW,false,()))
def JB:oM->Option gp:=fun(bt,cS,_)=>Option.bind (α:=Unit⊕gp) (bif (aW bt==0)==false then bif aW cS==0 then some (.inr ([],())) else some (.inl ()) else some (.inr ([],()))) fun q=>match q with
 |.inl _=>((gG (aY (aW bt+aW cS)) (aY (aW bt+aW cS))).bind fun G3=>(loop (σ:=kh) (ρ:=gp) (fun(vY,Dm,_)=>bif decide (vY<aW bt) then(bb bt vY).bind fun p7=>(loop (σ:=wM) (ρ:=kh) (fun(y8,m7,vM,_)=>bif decide (m7<aW cS) then(bb cS m7).bind fun p8=>rd vM (aY (vY+m7)) fun lM=>wr vM (aY (vY+m7)) (dF (eg IntKind.u64 (bo (bo (bo (bo p7*bo p8)+bo lM)+y8)) 4294967295)) fun Bm=>(ec IntKind.u64 (bo (bo (bo (bo p7*bo p8)+bo lM)+y8)) 32).bind fun ra=>some (.inl (ra,bR m7,Bm,())) else some (.inr (y8,vM,()))) (0,0,Dm,())).bind fun(ahd,arL,_)=>wr arL (aY (vY+aW cS)) (dF ahd) fun avK=>some (.inl (bR vY,avK,())) else some (.inr (Dm,()))) (0,List.replicate G3 (0:Int),())).bind fun(arN,_)=>(it (arN,())).bind fun(asu,_)=>some (asu,()))
 |.inr r=>some r
def EN:pn->Option fL:=fun(bt,cS,_)=>(it (bt.2.1,())).bind fun(a9,_)=>(it (cS.2.1,())).bind fun(bD,_)=>(JB (a9,bD,())).bind fun(bW,_)=>(mJ ((!(bt.1==cS.1)),bW,())).bind fun(cE,_)=>some (cE,())
def I8:IA->Option h0:=fun(bt,cS,_)=>(Jf (bt,cS,())).bind fun(a9,bD,bW,_)=>(bif !bW then(ED ()).bind fun(cE,_)=>some (cE,()) else(EN (a9.2.1,bD.2.1,())).bind fun(dB,_)=>(BX (dB,aY (a9.2.2.1+bD.2.2.1),())).bind fun(fj,_)=>some (fj,()))
def I9:h0->Option h0:=fun(i6,_)=>(rF (i6,())).bind fun(bn,a9,_)=>Option.bind (α:=IA) (bif a9 then(wY (bn.2.1,())).bind fun(bD,_)=>some ((bn.1,(bD,bn.2.2)),(false,((false,([],())),((0:Int),()))),()) else some (bn,(false,((false,([],())),((0:Int),()))),())) fun(ahR,_,_)=>some (ahR,())
def rE:ru->Option fL:=fun(bt,dc,_)=>(uK (bt,dc,())).bind fun(a9,_,_)=>some (a9,())
def I7:cb->Option gV:=fun(cA,_)=>some ((cA !=cA),())
def I5:qo->Option cb:=fun(cA,sE,_)=>(I7 (cA,())).bind fun(a9,_)=>(I7 (sE,())).bind fun(bD,_)=>(bif a9 then bif bD then some (0,()) else some ((-1:Int),()) else bif bD then some (1,()) else bif decide (cA<sE) then some ((-1:Int),()) else bif decide (cA>sE) then some (1,()) else some (0,()))
def zk:oM->Option cb:=fun(bt,cS,_)=>(bif aW bt !=aW cS then(BW (aW bt,aW cS,())).bind fun(a9,_)=>some (a9,()) else((loop (σ:=cb) (ρ:=rq) (fun(ek,_)=>bif decide (ek>=0) then(bb bt ek).bind fun e8=>(bb cS ek).bind fun eH=>bif e8 !=eH then(bb bt ek).bind fun gm=>(bb cS ek).bind fun hH=>(I5 (gm,hH,())).bind fun(gO,_)=>some (.inr (.inr (gO,()))) else some (.inl (aY (ek-1),())) else some (.inr (.inl ()))) (aY (aW bt-1),())).bind fun q=>match q with
 |.inl _=>(some (0,()))
 |.inr r=>some r))
def B5:oM->Option gp:=fun(bt,cS,_)=>(gG (aW bt) (aW bt)).bind fun ao3=>(loop (σ:=wM) (ρ:=gp) (fun(UN,yg,AJ,_)=>bif decide (yg<aW bt) then Option.bind (α:=kh) ((bb bt yg).bind fun jG=>Option.bind (α:=kh) (bif decide (yg<aW cS) then(bb cS yg).bind fun HY=>some (bo (bo (bo jG-UN)-bo HY),AJ,()) else some (bo (bo jG-UN),AJ,())) fun(aby,Hj,_)=>wr Hj yg (dF (eg IntKind.u64 aby 4294967295)) fun H6=>(ec IntKind.u64 aby 32).bind fun Bg=>some (eg IntKind.u64 Bg 1,H6,())) fun(agT,Mj,_)=>some (.inl (agT,bR yg,Mj,())) else some (.inr (AJ,()))) (0,0,List.replicate ao3 (0:Int),())).bind fun(vN,_)=>(it (vN,())).bind fun(Se,_)=>some (Se,())
def zj:pn->Option fL:=fun(bt,cS,_)=>(it (bt.2.1,())).bind fun(a9,_)=>(it (cS.2.1,())).bind fun(bD,_)=>(bif bt.1==cS.1 then(zl (a9,bD,())).bind fun(bW,_)=>(mJ (bt.1,bW,())).bind fun(cE,_)=>some (cE,()) else(zk (a9,bD,())).bind fun(dB,_)=>bif decide (dB>=0) then(B5 (a9,bD,())).bind fun(fj,_)=>(mJ (bt.1,fj,())).bind fun(gO,_)=>some (gO,()) else(B5 (bD,a9,())).bind fun(hd,_)=>(mJ (cS.1,hd,())).bind fun(ij,_)=>some (ij,()))
def Je:(rp×Unit)->Option h0:=fun(fC,_)=>(loop (σ:=(Int×Int×d7×rp×Unit)) (ρ:=((Int×d7×rp×Unit)⊕h0)) (fun(s3,iD,eJ,ND,_)=>bif decide (iD<aW fC) then(bb fC iD).bind fun eH=>(rF (eH,())).bind fun(dB,fj,_)=>bif !fj then(ED ()).bind fun(gO,_)=>some (.inr (.inr (gO,()))) else(dA (ND.length+([dB]).length)).bind fun _=>some (.inl ((if dB.2.2.1<s3 then dB.2.2.1 else s3),bR iD,eJ,(ND++[dB]),())) else some (.inr (.inl (s3,eJ,ND,())))) (0,0,(false,((false,([],())),((0:Int),()))),[],())).bind fun q=>match q with
 |.inl (VO,jh,T8,_)=>((loop (σ:=(Int×d7×rp×dX×Unit)) (ρ:=(d7×dX×Unit)) (fun(vW,tU,T9,abw,_)=>bif decide (vW<aW T8) then rd T9 vW fun t9=>(rE (t9.2.1,aY (t9.2.2.1-VO),())).bind fun(Sb,_)=>(zj (abw,Sb,())).bind fun(pT,_)=>some (.inl (bR vW,tU,T9,pT,())) else some (.inr (tU,abw,()))) (0,jh,T8,(false,([],())),())).bind fun(_,auh,_)=>(BX (auh,VO,())).bind fun(Sd,_)=>some (Sd,()))
 |.inr r=>some r
def wX:h0->Option cb:=fun(i6,_)=>(rF (i6,())).bind fun(bn,_,_)=>(rG (bn.2.1,())).bind fun(bD,_)=>some (bD,())
def BY:h0->Option h0:=fun(i6,_)=>(rF (i6,())).bind fun(bn,_,_)=>some (bn,())
def JA:rr->Option rr:=fun(bt,Vg,_)=>(gG (aW bt) (aW bt)).bind fun ao2=>(loop (σ:=wM) (ρ:=kh) (fun(aaO,Ly,x3,_)=>bif decide (Ly>=0) then(iE IntKind.u64 aaO 32).bind fun yw=>(bb bt Ly).bind fun oB=>(j8 IntKind.u64 (fr IntKind.u64 yw (bo oB)) (bo Vg)).bind fun jG=>wr x3 Ly (dF jG) fun wt=>(jB (fr IntKind.u64 yw (bo oB)) (bo Vg)).bind fun q8=>some (.inl (q8,aY (Ly-1),wt,())) else some (.inr (aaO,x3,()))) (0,aY (aW bt-1),List.replicate ao2 (0:Int),())).bind fun(as0,RR,_)=>(it (RR,())).bind fun(Ho,_)=>some (Ho,dF as0,())
def JC:cb->Option cb:=fun(cA,_)=>(B6 (cA,())).bind fun(bn,_)=>some (aY (32-bn),())
def EP:((bO×Nat×Nat)×bO×Unit)->Option rr:=fun(nH,eG,_)=>(cV (nH.2.2-nH.2.1) (aW eG)).bind fun cl=>(cy nH.1 (nH.2.1+cl) fun fo=>some fo).bind fun e8=>(iE IntKind.u64 (bo e8) 32).bind fun eH=>(cV (nH.2.2-nH.2.1) (aY (aW eG-1))).bind fun CY=>(cy nH.1 (nH.2.1+CY) fun uS=>some uS).bind fun dq=>(bb eG (aY (aW eG-1))).bind fun hT=>(j8 IntKind.u64 (fr IntKind.u64 eH (bo dq)) (bo hT)).bind fun hU=>(bb eG (aY (aW eG-1))).bind fun c1=>(jB (fr IntKind.u64 eH (bo dq)) (bo c1)).bind fun kb=>(loop (σ:=(axM×Int×Int×bO×Unit)) (ρ:=(axM×Int×bO×Unit)) (fun(p4,sm,AX,wc,_)=>Option.bind (α:=(axM×bO×Unit)⊕((axM×Int×Int×bO×Unit)⊕(axM×Int×bO×Unit))) (bif decide (sm>4294967295)==false then(bb eG (aY (aW eG-2))).bind fun wo=>(iE IntKind.u64 AX 32).bind fun t9=>(cV (p4.2-p4.1) (aY (aW eG-2))).bind fun Qz=>(cy wc (p4.1+Qz) fun Fl=>some Fl).bind fun jG=>bif decide (bo (sm*bo wo)>fr IntKind.u64 t9 (bo jG)) then
 some (.inl (p4,wc,())) else some (.inr (.inr (p4,sm,wc,()))) else some (.inl (p4,wc,()))) fun q=>match q with
 |.inl (HO,HP,_)=>((bb eG (aY (aW eG-1))).bind fun ua=>bif decide (bo (AX+bo ua)>4294967295) then some (.inr (HO,bo (sm-1),HP,())) else some (.inl (HO,bo (sm-1),bo (AX+bo ua),HP,())))
 |.inr r=>some r) (nH.2,hU,kb,nH.1,())).bind fun(auG,x7,auH,_)=>(loop (σ:=(axM×Int×Int×Int×bO×Unit)) (ρ:=(axM×Int×Int×bO×Unit)) (fun(lJ,uE,y6,p0,wd,_)=>bif decide (p0<aW eG) then(bb eG p0).bind fun lM=>(ec IntKind.u64 (bo (bo (x7*bo lM)+uE)) 32).bind fun HZ=>(cV (lJ.2-lJ.1) p0).bind fun QA=>(cy wd (lJ.1+QA) fun Fo=>some Fo).bind fun ra=>(cV (lJ.2-lJ.1) p0).bind fun Gv=>(cy wd (lJ.1+Gv) fun _=>some (wd.set (lJ.1+Gv) (dF (eg IntKind.u64 (bo (bo (bo ra-eg IntKind.u64 (bo (bo (x7*bo lM)+uE)) 4294967295)-y6)) 4294967295)))).bind fun Tq=>(ec IntKind.u64 (bo (bo (bo ra-eg IntKind.u64 (bo (bo (x7*bo lM)+uE)) 4294967295)-y6)) 32).bind fun Tk=>some (.inl (lJ,HZ,eg IntKind.u64 Tk 1,bR p0,Tq,())) else some (.inr (lJ,uE,y6,wd,()))) (auG,0,0,0,auH,())).bind fun(q5,UU,UP,S5,_)=>(cV (q5.2-q5.1) (aW eG)).bind fun QB=>(cy S5 (q5.1+QB) fun OA=>some OA).bind fun Nc=>
 (cV (q5.2-q5.1) (aW eG)).bind fun X5=>(cy S5 (q5.1+X5) fun _=>some (S5.set (q5.1+X5) (dF (eg IntKind.u64 (bo (bo (bo Nc-UU)-UP)) 4294967295)))).bind fun H8=>(ec IntKind.u64 (bo (bo (bo Nc-UU)-UP)) 32).bind fun avt=>(bif eg IntKind.u64 avt 1==0 then bif Nat.beq q5.1 nH.2.1&&(Nat.beq q5.2 nH.2.2&&(Nat.beq H8.length ((nH.1).length)&&Nat.blt q5.1 q5.2)) then some (H8,dF x7,()) else none else(loop (σ:=(axM×Int×Int×bO×Unit)) (ρ:=(axM×Int×bO×Unit)) (fun(lK,y9,sq,we,_)=>bif decide (sq<aW eG) then(bb eG sq).bind fun H0=>(cV (lK.2-lK.1) sq).bind fun QC=>(cy we (lK.1+QC) fun OB=>some OB).bind fun H1=>(cV (lK.2-lK.1) sq).bind fun Gw=>(cy we (lK.1+Gw) fun _=>some (we.set (lK.1+Gw) (dF (eg IntKind.u64 (bo (bo (bo H1+bo H0)+y9)) 4294967295)))).bind fun Tr=>(ec IntKind.u64 (bo (bo (bo H1+bo H0)+y9)) 32).bind fun Tl=>some (.inl (lK,Tl,bR sq,Tr,())) else some (.inr (lK,y9,we,()))) (q5,0,0,H8,())).bind fun(sx,ahe,S6,_)=>
 (cV (sx.2-sx.1) (aW eG)).bind fun am5=>(cy S6 (sx.1+am5) fun aiq=>some aiq).bind fun avv=>(cV (sx.2-sx.1) (aW eG)).bind fun X7=>(cy S6 (sx.1+X7) fun _=>some (S6.set (sx.1+X7) (dF (avv+dF ahe)))).bind fun ach=>bif Nat.beq sx.1 nH.2.1&&(Nat.beq sx.2 nH.2.2&&(Nat.beq ach.length ((nH.1).length)&&Nat.blt sx.1 sx.2)) then some (ach,dF (bo (x7-1)),()) else none)
def EQ:oM->Option oM:=fun(bt,cS,_)=>(zk (bt,cS,())).bind fun(asz,_)=>(bif decide (asz<0) then(zn (bt,())).bind fun(asA,_)=>some ([],asA,()) else bif aW cS==1 then(bb cS 0).bind fun avu=>(JA (bt,avu,())).bind fun(asB,asC,_)=>(it ([asC],())).bind fun(asD,_)=>some (asB,asD,()) else(bb cS (aY (aW cS-1))).bind fun avw=>(JC (avw,())).bind fun(Sg,_)=>(zm (cS,Sg,())).bind fun(Hp,_)=>(gG (bR (aW bt)) (bR (aW bt))).bind fun Df=>(zm (bt,Sg,())).bind fun(Sh,_)=>(gG (aY (aW (mI (List.replicate Df (0:Int)) Sh 0 (List.replicate Df (0:Int)).length)-aW Hp)) (aY (aW (mI (List.replicate Df (0:Int)) Sh 0 (List.replicate Df (0:Int)).length)-aW Hp))).bind fun Y7=>(loop (σ:=(Int×bO×bO×Unit)) (ρ:=oM) (fun(r9,Hm,wg,_)=>bif decide (r9>=0) then((hp r9).bind fun GH=>(hp (bR (aY (r9+aW Hp)))).bind fun GI=>(ia GH GI wg.length).bind fun _=>(Mo wg.length).map fun _=>(GH,GI)).bind fun vS=>
 bif Nat.blt vS.1 vS.2 then(EP ((wg,vS.1,vS.2),Hp,())).bind fun(Q0,Si,_)=>wr Hm r9 Si fun Tt=>some (.inl (aY (r9-1),Tt,Q0,())) else none else some (.inr (Hm,wg,()))) (aY (aW (List.replicate Y7 (0:Int))-1),List.replicate Y7 (0:Int),mI (List.replicate Df (0:Int)) Sh 0 (List.replicate Df (0:Int)).length,())).bind fun(asr,abR,_)=>((some (0)).bind fun Yj=>(hp (aW Hp)).bind fun Yk=>(ia Yj Yk abR.length).map fun _=>(Yj,Yk)).bind fun aas=>(it (((abR.take aas.2).drop aas.1),())).bind fun(asF,_)=>(B3 (asF,Sg,())).bind fun(asG,_,_)=>(it (asr,())).bind fun(asH,_)=>some (asH,asG,()))
def Jz:gp->Option gp:=fun(bt,_)=>(bif aW bt==0 then some ([],()) else(B4 (bt,())).bind fun(bn,_)=>(j8 IntKind.i64 (bR bn) 2).bind fun gk=>(zm ([1],gk,())).bind fun(bD,_)=>(loop (σ:=gp) (ρ:=gp) (fun(yu,_)=>(EQ (bt,yu,())).bind fun(cE,_,_)=>(zl (yu,cE,())).bind fun(fj,_)=>(B3 (fj,1,())).bind fun(gO,_,_)=>(zk (gO,yu,())).bind fun(ij,_)=>bif decide (ij>=0) then some (.inr (yu,())) else some (.inl (gO,()))) (bD,())).bind some)
def Jx:fL->Option ru:=fun(bt,_)=>(rG (bt,())).bind fun(bn,_)=>(bif decide (bn<0) then some ((false,(([]:bO),())),11,()) else(it (bt.2.1,())).bind fun(a9,_)=>(Jz (a9,())).bind fun(bD,_)=>(mJ (false,bD,())).bind fun(bW,_)=>some (bW,0,()))
def EM:pn->Option cb:=fun(bt,cS,_)=>(rG (bt,())).bind fun(a9,_)=>(rG (cS,())).bind fun(bD,_)=>(bif decide (a9<bD) then some ((-1:Int),()) else bif decide (a9>bD) then some (1,()) else(it (bt.2.1,())).bind fun(bW,_)=>(it (cS.2.1,())).bind fun(cE,_)=>(zk (bW,cE,())).bind fun(dB,_)=>some (aY (a9*dB),()))
def Jd:(d7×Int×Unit)->Option (wL×Unit):=fun(i6,Dr,_)=>(uJ (i6.2.1,())).bind fun(a9,_)=>Option.bind (α:=(Int×wL×Unit)) ((jB (aY (i6.2.2.1-(if(aY (aY (2*aY (Dr+3))-a9))>0 then aY (aY (2*aY (Dr+3))-a9) else 0))) 2).bind fun eK=>bif eK !=0 then some (bR (if(aY (aY (2*aY (Dr+3))-a9))>0 then aY (aY (2*aY (Dr+3))-a9) else 0),(false,((false,([],())),((0:Int),(false,())))),()) else some ((if(aY (aY (2*aY (Dr+3))-a9))>0 then aY (aY (2*aY (Dr+3))-a9) else 0),(false,((false,([],())),((0:Int),(false,())))),())) fun(xW,_,_)=>(rE (i6.2.1,xW,())).bind fun(dB,_)=>(Jx (dB,())).bind fun(fj,_,_)=>(j8 IntKind.i64 (aY (i6.2.2.1-xW)) 2).bind fun hT=>(EN (fj,fj,())).bind fun(ij,_)=>(EM (ij,dB,())).bind fun(k6,_)=>some ((false,(fj,(hT,((k6 !=0),())))),())
def Jb:(wL×Unit)->Option cb:=fun(cA,_)=>(uJ (cA.2.1,())).bind fun(bn,_)=>some (aY (aY (cA.2.2.1+bn)-1),())
def Jy:pn->Option fL:=fun(bt,cS,_)=>(zj (bt,((!cS.1),cS.2),())).bind fun(a9,_)=>some (a9,())
def EC:(wL×Int×Unit)->Option (dX×Int×Bool×Unit):=fun(cA,xE,_)=>(uJ (cA.2.1,())).bind fun(a9,_)=>(bif decide (xE>a9) then some ((false,(([]:bO),())),(-1:Int),false,()) else(EE (cA.2.1,xE,())).bind fun(bD,_)=>(rE (bD,xE,())).bind fun(bW,_)=>(Jy (cA.2.1,bW,())).bind fun(cE,_)=>(B2 (1,())).bind fun(dB,_)=>(rE (dB,aY (xE-1),())).bind fun(fj,_)=>(EM (cE,fj,())).bind fun(gO,_)=>Option.bind (α:=(Int×dX×dX×Unit)) (bif (gO==0)==true then bif cA.2.2.2.1 then some (1,bD,cE,()) else some (gO,bD,cE,()) else some (gO,bD,cE,())) fun(U2,pR,asZ,_)=>(rG (asZ,())).bind fun(j9,_)=>bif (j9==0)==true then some (pR,U2,(!cA.2.2.2.1),()) else some (pR,U2,false,()))
def Jc:(wL×Int×Int×Unit)->Option fL:=fun(cA,R7,G0,_)=>Option.bind (α:=(Int×Bool×dX×dX×Unit)) (bif decide (R7<=cA.2.2.1) then(rE (cA.2.1,aY (cA.2.2.1-R7),())).bind fun(bD,_)=>some ((-1:Int),true,(false,([],())),bD,()) else(EC (cA,aY (R7-cA.2.2.1),())).bind fun(bW,cE,dB,_)=>some (cE,dB,(false,([],())),bW,())) fun(U3,ajo,pY,pR,_)=>Option.bind (α:=(Bool×dX×dX×Unit)) (bif ajo then some (false,pY,pR,()) else bif G0==1 then some (cA.1,pY,pR,()) else bif G0==2 then some ((!cA.1),pY,pR,()) else bif G0==3 then some (false,pY,pR,()) else bif decide (U3>0)==false then bif (U3==0)==true then(rG (pR,())).bind fun(k6,_)=>bif (k6 !=0)==true then(EO (pR,())).bind fun(j9,_)=>some ((j9==0),pY,pR,()) else some (false,pY,pR,()) else some (false,pY,pR,()) else some (true,pY,pR,())) fun(agz,pZ,Y8,_)=>Option.bind (α:=pn) (bif agz then(B2 (1,())).bind fun(tN,_)=>(zj (Y8,tN,())).bind fun(AS,_)=>some (pZ,AS,()) else some (pZ,Y8,())) fun(vX,Y9,_)=>Option.bind (α:=pn) (bif cA.1 then(wY (Y9,())).bind fun(pT,_)=>some (vX,pT,()) else some (vX,Y9,())) fun(_,Rl,_)=>some (Rl,())
def B1:fL->Option fL:=fun(bt,_)=>(zn (bt.2.1,())).bind fun(bn,_)=>(mJ (false,bn,())).bind fun(a9,_)=>some (a9,())
def Jv:fL->Option axG:=fun(bt,_)=>(it (bt.2.1,())).bind fun(bn,_)=>(bif decide (aW bn>2) then some (0,false,()) else((loop (σ:=qo) (ρ:=cb) (fun(yo,eJ,_)=>bif decide (eJ<aW bn) then(bb bn eJ).bind fun e8=>(iE IntKind.u64 (bo e8) (aY (32*eJ))).bind fun eH=>some (.inl (fr IntKind.u64 yo eH,bR eJ,())) else some (.inr (yo,()))) (0,0,())).bind fun(DK,_)=>Option.bind (α:=Unit⊕axG) (Option.bind (α:=gV) (bif bt.1==true then bif decide (DK>0)==true then some (decide (DK<=9223372036854775808),()) else some (false,()) else some (false,())) fun(lH,_)=>bif lH then some (.inr (aY (aY (0-aY (bo (DK-1)))-1),true,())) else Option.bind (α:=gV) (bif decide (DK<9223372036854775808)==true then bif (!bt.1)==false then some ((DK==0),()) else some (true,()) else some (false,())) fun(iU,_)=>bif iU then some (.inr (aY DK,true,())) else some (.inl ())) fun q=>match q with
 |.inl _=>(some (0,false,()))
 |.inr r=>some r))
def zi:axG->Option cb:=fun(iv,apc,_)=>(bif apc then some (fr IntKind.u64 iv 9223372036854775808,()) else some (iv,()))
def Jn:axI->Option cb:=fun(iA,me,_)=>Option.bind (α:=Unit⊕cb) (Option.bind (α:=gV) (bif (me==3)==false then bif (me==1)==true then bif (!iA)==false then bif (me==2)==true then some (iA,()) else some (false,()) else some (true,()) else bif (me==2)==true then some (iA,()) else some (false,()) else some (true,())) fun(iD,_)=>bif iD then(zi (9218868437227405311,iA,())).bind fun(bD,_)=>some (.inr (bD,())) else some (.inl ())) fun q=>match q with
 |.inl _=>((zi (9218868437227405312,iA,())).bind fun(bW,_)=>some (bW,()))
 |.inr r=>some r
def EF:(wL×Int×Unit)->Option cb:=fun(cA,me,_)=>(Jb (cA,())).bind fun(a9,_)=>(Jc (cA,(if(-1074:Int)>aY (a9-52) then(-1074:Int) else aY (a9-52)),me,())).bind fun(bD,_)=>(B1 (bD,())).bind fun(bW,_)=>(Jv (bW,())).bind fun(cE,_,_)=>Option.bind (α:=qo) (bif bo cE==9007199254740992 then some (bR (if(-1074:Int)>aY (a9-52) then(-1074:Int) else aY (a9-52)),4503599627370496,()) else some ((if(-1074:Int)>aY (a9-52) then(-1074:Int) else aY (a9-52)),bo cE,())) fun(Hn,GU,_)=>(bif decide (GU<4503599627370496) then(zi (GU,cA.1,())).bind fun(hd,_)=>some (hd,()) else bif decide (aY (Hn+1075)>=2047) then(Jn (cA.1,me,())).bind fun(ij,_)=>some (ij,()) else(iE IntKind.u64 (bo (aY (Hn+1075))) 52).bind fun c1=>(zi (fr IntKind.u64 c1 (bo (GU-4503599627370496)),cA.1,())).bind fun(j9,_)=>some (j9,()))
def Jl:(d7×Int×Unit)->Option cb:=fun(i6,me,_)=>(BY (i6,())).bind fun(a9,_)=>Option.bind (α:=h0⊕cb) (Option.bind (α:=(Bool×d7×Unit)) (bif a9.1==false then(wX (a9,())).bind fun(bD,_)=>some (decide (bD<0),a9,()) else some (true,a9,())) fun(gI,Vh,_)=>bif gI then some (.inr (9221120237041090560,())) else(wX (Vh,())).bind fun(dB,_)=>bif dB==0 then some (.inr (0,())) else some (.inl (Vh,()))) fun q=>match q with
 |.inl (ahS,_)=>((Jd (ahS,56,())).bind fun(gO,_)=>(EF (gO,me,())).bind fun(hd,_)=>some (hd,()))
 |.inr r=>some r
def Jj:cb->Option cb:=fun(iv,_)=>(BZ (iv,())).bind fun(bn,a9,_)=>Option.bind (α:=gV) (bif (bn==2047)==true then some ((a9 !=0),()) else some (false,())) fun(eJ,_)=>(bif eJ then some (3,()) else bif bn==2047 then some (2,()) else bif (bn==0)==true then bif a9==0 then some (0,()) else some (1,()) else some (1,()))
def Ju:pn->Option (dX×dX×Int×Unit):=fun(bt,cS,_)=>(it (cS.2.1,())).bind fun(a9,_)=>(bif aW a9==0 then some ((false,(([]:bO),())),(false,(([]:bO),())),8,()) else(it (bt.2.1,())).bind fun(bD,_)=>(EQ (bD,a9,())).bind fun(bW,cE,_)=>Option.bind (α:=(bO×bO×dX×dX×Unit)) (Option.bind (α:=(Bool×dX×dX×Unit)) (bif bt.1==true then some (decide (aW cE>0),(false,([],())),(false,([],())),()) else some (false,(false,([],())),(false,([],())),())) fun(hf,Hn,aaD,_)=>bif hf then(zl (bW,[1],())).bind fun(hd,_)=>(B5 (a9,cE,())).bind fun(ij,_)=>some (hd,ij,Hn,aaD,()) else some (bW,cE,Hn,aaD,())) fun(aod,ao8,_,_,_)=>(mJ ((!(bt.1==cS.1)),aod,())).bind fun(oq,_)=>(mJ (false,ao8,())).bind fun(tN,_)=>some (oq,tN,0,()))
def Ja:(d7×d7×Int×Unit)->Option (wL×Unit):=fun(bt,cS,Mq,_)=>(uJ (cS.2.1,())).bind fun(bD,_)=>(uJ (bt.2.1,())).bind fun(bW,_)=>(B1 (bt.2.1,())).bind fun(cE,_)=>(rE (cE,(if(aY (aY (aY (Mq+3)+bD)-bW))>0 then aY (aY (aY (Mq+3)+bD)-bW) else 0),())).bind fun(dB,_)=>(B1 (cS.2.1,())).bind fun(fj,_)=>(Ju (dB,fj,())).bind fun(gO,hd,_,_)=>(rG (hd,())).bind fun(k6,_)=>some (((!(bt.2.1.1==cS.2.1.1)),(gO,(aY (aY (bt.2.2.1-(if(aY (aY (aY (Mq+3)+bD)-bW))>0 then aY (aY (aY (Mq+3)+bD)-bW) else 0))-cS.2.2.1),((k6 !=0),())))),())
def Jk:(d7×d7×Int×Unit)->Option cb:=fun(bt,cS,G0,_)=>(BY (bt,())).bind fun(bD,_)=>(BY (cS,())).bind fun(bW,_)=>Option.bind (α:=IA⊕cb) (Option.bind (α:=(Bool×d7×d7×Unit)) (bif bD.1==false then bif bW.1==false then(wX (bW,())).bind fun(cE,_)=>some ((cE==0),bD,bW,()) else some (true,bD,bW,()) else some (true,bD,bW,())) fun(hf,IB,agC,_)=>bif hf then some (.inr (9221120237041090560,())) else(wX (IB,())).bind fun(hd,_)=>bif hd==0 then some (.inr (0,())) else some (.inl (IB,agC,()))) fun q=>match q with
 |.inl (af6,agB,_)=>((Ja (af6,agB,56,())).bind fun(j9,_)=>(EF (j9,G0,())).bind fun(k7,_)=>some (k7,()))
 |.inr r=>some r
def Ce:cb->Option gV:=fun(iv,_)=>(ec IntKind.u64 iv 52).bind fun dL=>some ((eg IntKind.u64 dL 2047 !=2047),())
def J7:cb->Option gV:=fun(iv,_)=>some ((eg IntKind.u64 iv 9223372036854775808 !=0),())
def J8:cb->Option h0:=fun(iv,_)=>(Ce (iv,())).bind fun(bn,_)=>(bif !bn then(Cb ()).bind fun(a9,_)=>some (a9,()) else(ec IntKind.u64 iv 52).bind fun eK=>Option.bind (α:=(Int×Int×d7×Unit)) (bif decide (aY (eg IntKind.u64 eK 2047)>0) then some (fr IntKind.u64 (eg IntKind.u64 iv 4503599627370495) 4503599627370496,aY (aY (eg IntKind.u64 eK 2047)-1075),(false,((false,([],())),((0:Int),()))),()) else some (eg IntKind.u64 iv 4503599627370495,(-1074:Int),(false,((false,([],())),((0:Int),()))),())) fun(aaP,aiB,_,_)=>(J7 (iv,())).bind fun(fj,_)=>(ec IntKind.u64 aaP 32).bind fun dq=>(uM ((fj,([dF aaP,dF dq],())),aiB,())).bind fun(hd,_)=>some (hd,()))
def J3:h0->Option h0:=fun(i6,_)=>(Cc (i6,())).bind fun(bn,_)=>(bif bn.1 then some (bn,()) else(B9 (bn.2.1,())).bind fun(a9,_)=>(uM (a9,bn.2.2.1,())).bind fun(bD,_)=>some (bD,()))
def J5:(rp×Unit)->Option h0:=fun(fC,_)=>(loop (σ:=(Int×Int×d7×dX×Unit)) (ρ:=((Int×d7×dX×Unit)⊕h0)) (fun(Ci,eE,eJ,HK,_)=>bif decide (eE<aW fC) then(Option.bind (α:=(Int×d7×dX×Unit)⊕((Int×Int×d7×dX×Unit)⊕((Int×d7×dX×Unit)⊕h0))) ((bb fC eE).bind fun eH=>(Cc (eH,())).bind fun(dB,_)=>bif dB.1 then(Cb ()).bind fun(fj,_)=>some (.inr (.inr (.inr (fj,())))) else(w3 (dB.2.1,())).bind fun(gO,_)=>bif gO==0 then some (.inl (Ci,eJ,HK,())) else(w3 (HK,())).bind fun(hd,_)=>bif hd==0 then some (.inl (dB.2.2.1,eJ,dB.2.1,())) else bif decide (dB.2.2.1>=Ci) then(rH (dB.2.1,aY (dB.2.2.1-Ci),())).bind fun(ij,_)=>(zo (HK,ij,())).bind fun(k6,_)=>some (.inl (Ci,eJ,k6,())) else(rH (HK,aY (Ci-dB.2.2.1),())).bind fun(j9,_)=>(zo (j9,dB.2.1,())).bind fun(k7,_)=>some (.inl (dB.2.2.1,eJ,k7,()))) fun q=>match q with
 |.inl (aix,A0,auw,_)=>(some (.inl (aix,bR eE,A0,auw,())))
 |.inr r=>some r) else some (.inr (.inl (Ci,eJ,HK,())))) (0,0,(false,((false,([],())),((0:Int),()))),(false,(([]:bO),())),())).bind fun q=>match q with
 |.inl (aiy,_,aux,_)=>((uM (aux,aiy,())).bind fun(pT,_)=>some (pT,()))
 |.inr r=>some r
def JJ:(Int×Int×Int×Unit)->Option gV:=fun(hF,anJ,aln,_)=>(bif decide (hF>=anJ)==true then some (decide (hF<=aln),()) else some (false,()))
def JO:gp->Option gV:=fun(cA,_)=>(loop (σ:=cb) (ρ:=sU) (fun(g0,_)=>bif decide (g0>0) then(bb cA g0).bind fun gk=>(bb cA (aY (g0-1))).bind fun eK=>(zf (gk,eK,())).bind fun(bW,_)=>bif bW then some (.inr (.inr (false,()))) else some (.inl (aY (g0-1),())) else some (.inr (.inl ()))) (aY (aW cA-1),())).bind fun q=>match q with
 |.inl _=>(some (true,()))
 |.inr r=>some r
def JG:oN->Option gV:=fun(bV,_)=>Option.bind (α:=Unit⊕gV) (bif (aW bV.2.2.1 !=bR bV.2.1)==false then(bb bV.2.2.1 0).bind fun dL=>bif (dL !=0)==false then(JO (bV.2.2.1,())).bind fun(a9,_)=>bif (!a9)==false then(bb bV.2.2.1 bV.2.1).bind fun eK=>bif (eK !=aW bV.2.2.2.1)==false then bif aW bV.2.2.2.1 !=aW bV.2.2.2.2.1 then some (.inr (false,())) else some (.inl ()) else some (.inr (false,())) else some (.inr (false,())) else some (.inr (false,())) else some (.inr (false,()))) fun q=>match q with
 |.inl _=>((loop (σ:=cb) (ρ:=sU) (fun(gI,_)=>bif decide (gI<bV.2.1) then((bb bV.2.2.1 gI).bind fun eH=>(bb bV.2.2.1 (bR gI)).bind fun gm=>((hp eH).bind fun xH=>(hp gm).bind fun xI=>(ia xH xI (bV.2.2.2.1).length).map fun _=>(xH,xI)).bind fun mj=>(loop (σ:=qo) (ρ:=(Unit⊕(cb⊕sU))) (fun(ant,ov,_)=>bif decide (ov<aW (((bV.2.2.2.1).take mj.2).drop mj.1)) then(Option.bind (α:=cb⊕(qo⊕(Unit⊕(cb⊕sU)))) ((bb (((bV.2.2.2.1).take mj.2).drop mj.1) ov).bind fun kb=>Option.bind (α:=Unit⊕(cb⊕(qo⊕(Unit⊕(cb⊕sU))))) (bif decide (kb<=ant)==false then bif decide (kb>=bV.1) then some (.inr (.inr (.inr (.inr (.inr (.inr (false,()))))))) else some (.inl ()) else some (.inr (.inr (.inr (.inr (.inr (.inr (false,())))))))) fun q=>match q with
 |.inl _=>(some (.inl (kb,())))
 |.inr r=>some r) fun q=>match q with
 |.inl (anu,_)=>(some (.inl (anu,bR ov,())))
 |.inr r=>some r) else some (.inr (.inl ()))) ((-1:Int),0,())).bind fun q=>match q with
 |.inl _=>(some (.inl (bR gI,())))
 |.inr r=>some r) else some (.inr (.inl ()))) (0,())).bind fun q=>match q with
 |.inl _=>(some (true,()))
 |.inr r=>some r)
 |.inr r=>some r
def Of:cb->Option gV:=fun(iv,_)=>(zg (iv,())).bind fun(bn,_)=>some ((!bn),())
def Oh:(bO×Unit×Unit)->Option cb:=fun(fI,_,_)=>(loop (σ:=cb) (ρ:=rq) (fun(iD,_)=>bif decide (iD<aW fI) then(bb fI iD).bind fun eK=>(Of (eK,())).bind fun(bW,_)=>bif bW then some (.inr (.inr (iD,()))) else some (.inl (bR iD,())) else some (.inr (.inl ()))) (0,())).bind fun q=>match q with
 |.inl _=>(some ((-1:Int),()))
 |.inr r=>some r
def JM:(bO×Unit×Unit)->Option gV:=fun(fI,_,_)=>(Oh (fI,(),())).bind fun(a9,_)=>some (decide (a9>=0),())
def wZ:oN->Option cb:=fun(bV,_)=>Option.bind (α:=gV) ((JJ (bV.1,0,200,())).bind fun(bn,_)=>bif (!bn)==false then(JJ (bV.2.1,0,200,())).bind fun(a9,_)=>bif (!a9)==false then some (decide (aW bV.2.2.2.1>10000),()) else some (true,()) else some (true,())) fun(eJ,_)=>(bif eJ then some (6,()) else(JG (bV,())).bind fun(bW,_)=>bif !bW then some (1,()) else(JM (bV.2.2.2.2.1,(),())).bind fun(cE,_)=>bif cE then some (4,()) else some (0,()))
def Km:rr->Option (bO×Bool×Unit):=fun(RQ,dc,_)=>(bif aW RQ !=dc then some ([],false,()) else((gG dc dc).bind fun ao5=>(gG dc dc).bind fun Ri=>(loop (σ:=(Int×bO×ro×Unit)) (ρ:=(gp⊕(bO×Bool×Unit))) (fun(tW,Mp,MM,_)=>bif decide (tW<aW RQ) then(Option.bind (α:=(bO×ro×Unit)⊕((Int×bO×ro×Unit)⊕(gp⊕(bO×Bool×Unit)))) ((bb RQ tW).bind fun p8=>Option.bind (α:=(bO×ro×Unit)⊕((bO×ro×Unit)⊕((Int×bO×ro×Unit)⊕(gp⊕(bO×Bool×Unit))))) (Option.bind (α:=(Bool×bO×ro×Unit)) (bif decide (p8<0)==false then bif decide (p8>=dc)==false then rd MM p8 fun lM=>some (lM,Mp,MM,()) else some (true,Mp,MM,()) else some (true,Mp,MM,())) fun(SD,asf,atE,_)=>bif SD then some (.inr (.inr (.inr (.inr ([],false,()))))) else some (.inl (asf,atE,()))) fun q=>match q with
 |.inl (asg,atF,_)=>(wr asg p8 tW fun avJ=>wr atF p8 true fun H7=>some (.inl (avJ,H7,())))
 |.inr r=>some r) fun q=>match q with
 |.inl (ash,atG,_)=>(some (.inl (bR tW,ash,atG,())))
 |.inr r=>some r) else some (.inr (.inl (Mp,())))) (0,List.replicate ao5 (0:Int),List.replicate Ri false,())).bind fun q=>match q with
 |.inl (asi,_)=>(some (asi,true,()))
 |.inr r=>some r))
def B8:oN->Option lj:=fun(bV,_)=>(loop (σ:=uz) (ρ:=lj) (fun(kG,k5,_)=>bif decide (kG<bV.2.1) then(bb bV.2.2.1 kG).bind fun eK=>(loop (σ:=uz) (ρ:=lj) (fun(kD,si,_)=>(bb bV.2.2.1 (bR kG)).bind fun gm=>bif decide (kD<gm) then(bb bV.2.2.2.1 kD).bind fun hH=>(bb bV.2.2.2.2.1 kD).bind fun dq=>(dA (si.length+([(hH,(kG,(dq,())))]).length)).bind fun _=>some (.inl (bR kD,(si++[(hH,(kG,(dq,())))]),())) else some (.inr (si,()))) (eK,k5,())).bind fun(Mh,_)=>some (.inl (bR kG,Mh,())) else some (.inr (k5,()))) (0,[],())).bind fun(vL,_)=>some (vL,())
def Og:lj->Option lj:=fun(fI,_)=>qP fI.length (some ([],())) ((dA (([]:mF).length+fI.length)).bind fun _=>some (([]++fI),()))
def JI:((Int×(Int×cb))×(Int×(Int×cb))×Unit)->Option cb:=fun(bt,cS,_)=>(BW (bt.2.1,cS.2.1,())).bind fun(a9,_)=>(BW (bt.1,cS.1,())).bind fun(bD,_)=>(I6 ([a9,bD],())).bind fun(bW,_)=>some (bW,())
def ET:(mF×Int×Int×Unit×Unit)->Option lj:=fun(zt,yY,Ep,_,_)=>(loop (σ:=uz) (ρ:=lj) (fun(vh,Fg,_)=>bif decide (vh<Ep) then(loop (σ:=uz) (ρ:=lj) (fun(o0,Fh,_)=>Option.bind (α:=lj⊕(uz⊕lj)) (bif decide (o0>yY)==true then rd Fh o0 fun hU=>rd Fh (aY (o0-1)) fun wm=>(JI (hU,wm,())).bind fun(AR,_)=>bif decide (AR<0) then some (.inl (Fh,())) else some (.inr (.inr (Fh,()))) else some (.inr (.inr (Fh,())))) fun q=>match q with
 |.inl (Oq,_)=>(rd Oq (aY (o0-1)) fun t9=>rd Oq o0 fun jG=>wr Oq o0 t9 fun wt=>wr wt (aY (o0-1)) jG fun H6=>some (.inl (aY (o0-1),H6,())))
 |.inr r=>some r) (vh,Fg,())).bind fun(Ot,_)=>some (.inl (bR vh,Ot,())) else some (.inr (Fg,()))) (bR yY,zt,())).bind fun(ahX,_)=>some (ahX,())
def Ol:(mF×Int×Unit×Unit)->Option lj:=fun(zt,dc,_,_)=>(loop (σ:=Nu) (ρ:=uz) (fun(El,IL,Fg,_)=>bif decide (IL<=dc) then(ET (Fg,El,IL,(),())).bind fun(an6,_)=>some (.inl (IL,aY (IL+20),an6,())) else some (.inr (El,Fg,()))) (0,20,zt,())).bind fun(IB,ahY,_)=>(ET (ahY,IB,dc,(),())).bind fun(QZ,_)=>(loop (σ:=uz) (ρ:=lj) (fun(agQ,ahU,_)=>bif decide (agQ<dc) then none else some (.inr (ahU,()))) (20,QZ,())).bind fun(ahV,_)=>some (ahV,())
def Ok:(mF×Unit×Unit)->Option lj:=fun(cA,_,_)=>(Ol (cA,aW cA,(),())).bind fun(iS,_)=>some (iS,())
def JH:lj->Option lj:=fun(fC,_)=>(Og (fC,())).bind fun(bn,_)=>(Ok (bn,(),())).bind fun(iS,_)=>some (iS,())
def JF:Nu->Option oN:=fun(yc,uH,C2,_)=>(gG (bR uH) (bR uH)).bind fun o3=>(JH (C2,())).bind fun(bW,_)=>(loop (σ:=(Int×cR×cR×mF×Unit)) (ρ:=(cR×cR×Unit)) (fun(he,hf,a6,iU,_)=>bif decide (he<aW bW) then rd iU he fun c1=>(dA ((a6.2.2.2.1).length+([c1.1]).length)).bind fun _=>(dA ((a6.2.2.2.2.1).length+([c1.2.2.1]).length)).bind fun _=>(cV (((a6.1,(a6.2.1,(a6.2.2.1,((a6.2.2.2.1++[c1.1]),a6.2.2.2.2)))).1,((a6.1,(a6.2.1,(a6.2.2.1,((a6.2.2.2.1++[c1.1]),a6.2.2.2.2)))).2.1,((a6.1,(a6.2.1,(a6.2.2.1,((a6.2.2.2.1++[c1.1]),a6.2.2.2.2)))).2.2.1,((a6.1,(a6.2.1,(a6.2.2.1,((a6.2.2.2.1++[c1.1]),a6.2.2.2.2)))).2.2.2.1,(((a6.1,(a6.2.1,(a6.2.2.1,((a6.2.2.2.1++[c1.1]),a6.2.2.2.2)))).2.2.2.2.1++[c1.2.2.1]),(a6.1,(a6.2.1,(a6.2.2.1,((a6.2.2.2.1++[c1.1]),a6.2.2.2.2)))).2.2.2.2.2))))).2.2.1).length (bR c1.2.1)).bind fun am3=>(cy ((a6.1,(a6.2.1,(a6.2.2.1,((a6.2.2.2.1++[c1.1]),a6.2.2.2.2)))).1,((a6.1,(a6.2.1,(a6.2.2.1,((a6.2.2.2.1++[c1.1]),a6.2.2.2.2)))).2.1,((a6.1,(a6.2.1,(a6.2.2.1,((a6.2.2.2.1++[c1.1]),a6.2.2.2.2)))).2.2.1,((a6.1,(a6.2.1,(a6.2.2.1,((a6.2.2.2.1++[c1.1]),a6.2.2.2.2)))).2.2.2.1,(((a6.1,(a6.2.1,(a6.2.2.1,((a6.2.2.2.1++[c1.1]),a6.2.2.2.2)))).2.2.2.2.1++[c1.2.2.1]),(a6.1,(a6.2.1,(a6.2.2.1,((a6.2.2.2.1++[c1.1]),a6.2.2.2.2)))).2.2.2.2.2))))).2.2.1 am3 fun aig=>some aig).bind fun Bf=>
 (cV (((a6.1,(a6.2.1,(a6.2.2.1,((a6.2.2.2.1++[c1.1]),a6.2.2.2.2)))).1,((a6.1,(a6.2.1,(a6.2.2.1,((a6.2.2.2.1++[c1.1]),a6.2.2.2.2)))).2.1,((a6.1,(a6.2.1,(a6.2.2.1,((a6.2.2.2.1++[c1.1]),a6.2.2.2.2)))).2.2.1,((a6.1,(a6.2.1,(a6.2.2.1,((a6.2.2.2.1++[c1.1]),a6.2.2.2.2)))).2.2.2.1,(((a6.1,(a6.2.1,(a6.2.2.1,((a6.2.2.2.1++[c1.1]),a6.2.2.2.2)))).2.2.2.2.1++[c1.2.2.1]),(a6.1,(a6.2.1,(a6.2.2.1,((a6.2.2.2.1++[c1.1]),a6.2.2.2.2)))).2.2.2.2.2))))).2.2.1).length (bR c1.2.1)).bind fun LC=>((((cy ((a6.1,(a6.2.1,(a6.2.2.1,((a6.2.2.2.1++[c1.1]),a6.2.2.2.2)))).1,((a6.1,(a6.2.1,(a6.2.2.1,((a6.2.2.2.1++[c1.1]),a6.2.2.2.2)))).2.1,((a6.1,(a6.2.1,(a6.2.2.1,((a6.2.2.2.1++[c1.1]),a6.2.2.2.2)))).2.2.1,((a6.1,(a6.2.1,(a6.2.2.1,((a6.2.2.2.1++[c1.1]),a6.2.2.2.2)))).2.2.2.1,(((a6.1,(a6.2.1,(a6.2.2.1,((a6.2.2.2.1++[c1.1]),a6.2.2.2.2)))).2.2.2.2.1++[c1.2.2.1]),(a6.1,(a6.2.1,(a6.2.2.1,((a6.2.2.2.1++[c1.1]),a6.2.2.2.2)))).2.2.2.2.2))))).2.2.1 LC fun _=>some ((((a6.1,(a6.2.1,(a6.2.2.1,((a6.2.2.2.1++[c1.1]),a6.2.2.2.2)))).1,((a6.1,(a6.2.1,(a6.2.2.1,((a6.2.2.2.1++[c1.1]),a6.2.2.2.2)))).2.1,((a6.1,(a6.2.1,(a6.2.2.1,((a6.2.2.2.1++[c1.1]),a6.2.2.2.2)))).2.2.1,((a6.1,(a6.2.1,(a6.2.2.1,((a6.2.2.2.1++[c1.1]),a6.2.2.2.2)))).2.2.2.1,(((a6.1,(a6.2.1,(a6.2.2.1,((a6.2.2.2.1++[c1.1]),a6.2.2.2.2)))).2.2.2.2.1++[c1.2.2.1]),(a6.1,(a6.2.1,(a6.2.2.1,((a6.2.2.2.1++[c1.1]),a6.2.2.2.2)))).2.2.2.2.2))))).2.2.1).set LC (bR Bf))).map fun ws=>(ws,((a6.1,(a6.2.1,(a6.2.2.1,((a6.2.2.2.1++[c1.1]),a6.2.2.2.2)))).1,((a6.1,(a6.2.1,(a6.2.2.1,((a6.2.2.2.1++[c1.1]),a6.2.2.2.2)))).2.1,((a6.1,(a6.2.1,(a6.2.2.1,((a6.2.2.2.1++[c1.1]),a6.2.2.2.2)))).2.2.1,((a6.1,(a6.2.1,(a6.2.2.1,((a6.2.2.2.1++[c1.1]),a6.2.2.2.2)))).2.2.2.1,(((a6.1,(a6.2.1,(a6.2.2.1,((a6.2.2.2.1++[c1.1]),a6.2.2.2.2)))).2.2.2.2.1++[c1.2.2.1]),(a6.1,(a6.2.1,(a6.2.2.1,((a6.2.2.2.1++[c1.1]),a6.2.2.2.2)))).2.2.2.2.2))))).2.2.2)).map fun H4=>(((a6.1,(a6.2.1,(a6.2.2.1,((a6.2.2.2.1++[c1.1]),a6.2.2.2.2)))).1,((a6.1,(a6.2.1,(a6.2.2.1,((a6.2.2.2.1++[c1.1]),a6.2.2.2.2)))).2.1,((a6.1,(a6.2.1,(a6.2.2.1,((a6.2.2.2.1++[c1.1]),a6.2.2.2.2)))).2.2.1,((a6.1,(a6.2.1,(a6.2.2.1,((a6.2.2.2.1++[c1.1]),a6.2.2.2.2)))).2.2.2.1,(((a6.1,(a6.2.1,(a6.2.2.1,((a6.2.2.2.1++[c1.1]),a6.2.2.2.2)))).2.2.2.2.1++[c1.2.2.1]),(a6.1,(a6.2.1,(a6.2.2.1,((a6.2.2.2.1++[c1.1]),a6.2.2.2.2)))).2.2.2.2.2))))).2.1,H4)).map fun Bk=>(((a6.1,(a6.2.1,(a6.2.2.1,((a6.2.2.2.1++[c1.1]),a6.2.2.2.2)))).1,((a6.1,(a6.2.1,(a6.2.2.1,((a6.2.2.2.1++[c1.1]),a6.2.2.2.2)))).2.1,((a6.1,(a6.2.1,(a6.2.2.1,((a6.2.2.2.1++[c1.1]),a6.2.2.2.2)))).2.2.1,((a6.1,(a6.2.1,(a6.2.2.1,((a6.2.2.2.1++[c1.1]),a6.2.2.2.2)))).2.2.2.1,(((a6.1,(a6.2.1,(a6.2.2.1,((a6.2.2.2.1++[c1.1]),a6.2.2.2.2)))).2.2.2.2.1++[c1.2.2.1]),(a6.1,(a6.2.1,(a6.2.2.1,((a6.2.2.2.1++[c1.1]),a6.2.2.2.2)))).2.2.2.2.2))))).1,Bk)).bind fun Tn=>
 some (.inl (bR he,hf,Tn,iU,())) else some (.inr (hf,a6,()))) (0,((0:Int),((0:Int),([],([],([],()))))),(yc,(uH,(List.replicate o3 (0:Int),(([]:bO),(([]:bO),()))))),bW,())).bind fun(A1,fE,_)=>(loop (σ:=(Int×cR×cR×Unit)) (ρ:=(cR×cR×Unit)) (fun(qW,vY,vx,_)=>bif decide (qW<uH) then rd vx.2.2.1 (bR qW) fun Bg=>rd vx.2.2.1 qW fun DP=>(cV (vx.2.2.1).length (bR qW)).bind fun sa=>((((cy vx.2.2.1 sa fun _=>some ((vx.2.2.1).set sa (aY (Bg+DP)))).map fun avG=>(avG,vx.2.2.2)).map fun avH=>(vx.2.1,avH)).map fun Bm=>(vx.1,Bm)).bind fun avI=>some (.inl (bR qW,vY,avI,())) else some (.inr (vY,vx,()))) (0,A1,fE,())).bind fun(_,vy,_)=>some (vy,())
def JE:oN->Option (cR×Int×Unit):=fun(bV,_)=>(wZ (bV,())).bind fun(bD,_)=>(bif bD !=0 then some (((0:Int),((0:Int),(([]:bO),(([]:bO),(([]:bO),()))))),bD,()) else(B8 (bV,())).bind fun(bW,_)=>(loop (σ:=(Int×cR×mF×mF×Unit)) (ρ:=(cR×mF×Unit)) (fun(he,hf,mh,iU,_)=>bif decide (he<aW bW) then Option.bind (α:=(cR×mF×mF×Unit)) (rd iU he fun c1=>bif decide (c1.1>=c1.2.1) then(dA (mh.length+([c1]).length)).bind fun _=>some (hf,(mh++[c1]),iU,()) else some (hf,mh,iU,())) fun(vW,qR,pZ,_)=>some (.inl (bR he,vW,qR,pZ,())) else some (.inr (hf,mh,()))) (0,((0:Int),((0:Int),([],([],([],()))))),[],bW,())).bind fun(_,Mi,_)=>(JF (bV.1,bV.2.1,Mi,())).bind fun(AS,_)=>some (AS,0,()))
def JD:oN->Option lj:=fun(bV,_)=>(wZ (bV,())).bind fun(bD,_)=>(bif bD !=0 then some ([],()) else(B8 (bV,())).bind fun(bW,_)=>some (bW,()))
def EH:oN->Option ((List bO×Unit)×Int×Unit):=fun(bV,_)=>(wZ (bV,())).bind fun(bn,_)=>(bif bn !=0 then some ((([]:List bO),()),bn,()) else bif bV.1 !=bV.2.1 then some ((([]:List bO),()),5,()) else(EI (bV.2.1,())).bind fun(a9,_)=>(JD (bV,())).bind fun(bD,_)=>(loop (σ:=(Int×(List bO×Unit)×List ro×mF×Unit)) (ρ:=((List bO×Unit)×List ro×Unit)) (fun(gI,he,hf,lH,_)=>bif decide (gI<aW bD) then rd lH gI fun hU=>(EL (hf,hU.1,hU.2.1,())).bind fun(an2,_)=>some (.inl (bR gI,he,an2,lH,())) else some (.inr (he,hf,()))) (0,([],()),a9,bD,())).bind fun(_,tU,_)=>(EK (tU,())).bind fun(AR,_)=>some (AR,0,()))
def zr:(cR×bO×Unit)->Option (Option qn×Int×Unit):=fun(bt,mg,_)=>(wZ (bt,())).bind fun(aaz,_)=>(bif aaz !=0 then some (none,aaz,()) else bif bt.1 !=bt.2.1 then some (none,5,()) else(Km (mg,bt.2.1,())).bind fun(aaA,asw,_)=>bif !asw then some (none,90,()) else(JE (bt,())).bind fun(asx,_,_)=>(EH (asx,())).bind fun(asy,_,_)=>(EJ (asy,mg,())).bind fun(aaB,_,_)=>(gG bt.2.1 bt.2.1).bind fun Y6=>(loop (σ:=(Int×cR×qn×Unit)) (ρ:=(cR×qn×Unit)) (fun(SE,TY,Az,_)=>bif decide (SE<aW ((bt.2.1,(aaB,(List.replicate Y6 (none:Option (List (Int×d7)×Nat)),()))).2.2.1)) then(cV (Az.2.2.1).length SE).bind fun X6=>((((cy Az.2.2.1 X6 fun _=>some ((Az.2.2.1).set X6 (some ([],0)))).map fun avS=>(avS,Az.2.2.2)).map fun avT=>(Az.2.1,avT)).map fun avU=>(Az.1,avU)).bind fun avV=>some (.inl (bR SE,TY,avV,())) else some (.inr (TY,Az,()))) (0,bt,(bt.2.1,(aaB,(List.replicate Y6 (none:Option (List (Int×d7)×Nat)),()))),())).bind fun(TZ,aon,_)=>
 (loop (σ:=(Int×cR×qn×Unit)) (ρ:=(qn×Unit)) (fun(DB,T0,YI,_)=>bif decide (DB<TZ.2.1) then(bb T0.2.2.1 DB).bind fun avx=>(loop (σ:=(Int×cR×qn×Unit)) (ρ:=(cR×qn×Unit)) (fun(IK,BJ,vz,_)=>(bb BJ.2.2.1 (bR DB)).bind fun avy=>bif decide (IK<avy) then Option.bind (α:=(cR×qn×Unit)) ((bb BJ.2.2.2.1 IK).bind fun acf=>bif decide (acf>=DB) then(bb aaA acf).bind fun Nd=>(bb aaA DB).bind fun Nf=>(cV (vz.2.2.1).length (if Nf<Nd then Nf else Nd)).bind fun QD=>(bb BJ.2.2.2.2.1 IK).bind fun avz=>(zh (avz,())).bind fun(asE,_)=>(cy vz.2.2.1 QD fun air=>some air).bind fun aoS=>(vw aoS (if Nf>Nd then Nf else Nd) asE).bind fun aoX=>((((cy vz.2.2.1 QD fun _=>some ((vz.2.2.1).set QD aoX)).map fun avW=>(avW,vz.2.2.2)).map fun avX=>(vz.2.1,avX)).map fun avY=>(vz.1,avY)).bind fun avZ=>some (BJ,avZ,()) else some (BJ,vz,())) fun(af7,aoo,_)=>some (.inl (bR IK,af7,aoo,())) else some (.inr (BJ,vz,()))) (avx,T0,YI,())).bind fun(af8,aop,_)=>
 some (.inl (bR DB,af8,aop,())) else some (.inr (YI,()))) (0,TZ,aon,())).bind fun(aob,_)=>some (some aob,0,()))
def I2:(Option qn×Unit)->Option (nT×Unit):=fun(bV,_)=>bV.bind fun dL=>(Kj (dL.2.1,())).bind fun(a9,_,_)=>bV.bind fun e8=>(gG e8.1 e8.1).bind fun ao6=>bV.bind fun gm=>(gG gm.1 gm.1).bind fun ao7=>bV.bind fun dq=>(gG dq.1 dq.1).bind fun ao1=>(loop (σ:=(Int×nT×Unit)) (ρ:=(nT×Unit)) (fun(jh,Ew,_)=>bif decide (jh<aW a9) then(bb a9 jh).bind fun kb=>(loop (σ:=(Int×nT×Unit)) (ρ:=(nT×Unit)) (fun(tU,nW,_)=>bif decide (tU<aW kb) then Option.bind (α:=(nT×Unit)) ((bb kb tU).bind fun HX=>bif decide (HX>jh) then(cV (nW.2.2.2.1).length HX).bind fun Gq=>(cy nW.2.2.2.1 Gq fun aij=>some aij).bind fun avi=>(dA (avi.length+([jh]).length)).bind fun _=>(cV (nW.2.2.2.1).length HX).bind fun LD=>bif Nat.beq Gq LD&&true then(cy nW.2.2.2.1 LD fun aik=>some aik).bind fun avj=>(((((cy nW.2.2.2.1 LD fun _=>some ((nW.2.2.2.1).set LD (avj++[jh]))).map fun wt=>(wt,nW.2.2.2.2)).map fun H5=>(nW.2.2.1,H5)).map fun Bl=>(nW.2.1,Bl)).map fun H6=>(nW.1,H6)).bind fun avE=>
 some (avE,()) else none else some (nW,())) fun(ag6,_)=>some (.inl (bR tU,ag6,())) else some (.inr (nW,()))) (0,Ew,())).bind fun(ag7,_)=>some (.inl (bR jh,ag7,())) else some (.inr (Ew,()))) (0,(a9,(List.replicate ao6 [],(List.replicate ao7 (none:Option (List (Int×d7)×Nat)),(List.replicate ao1 [],())))),())).bind fun(ag8,_)=>some (ag8,())
def Kl:(Option qn×Int×Int×Unit)->Option h0:=fun(bV,g0,h8,_)=>bV.bind fun eK=>(bb eK.2.2.1 (if h8<g0 then h8 else g0)).bind fun e8=>some (((k2 (α:=d7) e8 (if h8>g0 then h8 else g0)).getD (false,((false,([],())),((0:Int),())))),())
def EB:(Option nT×Option qn×Int×Int×Unit)->Option h0:=fun(nm,oj,eE,qL,_)=>(Kl (oj,eE,qL,())).bind fun(bW,_)=>nm.bind fun eH=>(bb eH.2.2.2.1 qL).bind fun gm=>(loop (σ:=(Int×d7×rp×Unit)) (ρ:=(d7×rp×Unit)) (fun(lH,iU,MW,_)=>bif decide (lH<aW gm) then Option.bind (α:=(d7×rp×Unit)) ((bb gm lH).bind fun hU=>nm.bind fun c1=>(bb c1.2.2.1 hU).bind fun kb=>bif (k2 (α:=d7) kb eE).isSome then nm.bind fun wm=>(bb wm.2.2.1 hU).bind fun Bf=>(I8 (((k2 (α:=d7) kb eE).getD (false,((false,([],())),((0:Int),())))),((k2 (α:=d7) Bf qL).getD (false,((false,([],())),((0:Int),())))),())).bind fun(oq,_)=>(I9 (oq,())).bind fun(tN,_)=>(dA (MW.length+([tN]).length)).bind fun _=>some (iU,(MW++[tN]),()) else some (iU,MW,())) fun(tV,aut,_)=>some (.inl (bR lH,tV,aut,())) else some (.inr (iU,MW,()))) (0,(false,((false,([],())),((0:Int),()))),[bW],())).bind fun(_,auu,_)=>(Je (auu,())).bind fun(Mx,_)=>
 some (Mx,())
def I3:(nT×Option qn×Int×Unit)->Option (nT×Int×Unit):=fun(nm,oj,h8,_)=>(EB (some nm,oj,h8,h8,())).bind fun(bD,_)=>(wX (bD,())).bind fun(bW,_)=>(bif decide (bW<=0) then some (nm,231,()) else(Jl (bD,0,())).bind fun(cE,_)=>(Jj (cE,())).bind fun(dB,_)=>bif dB==0 then some (nm,231,()) else(zh (cE,())).bind fun(fj,_)=>(vw (some ([],0)) h8 fj).bind fun aoW=>(cV (nm.2.1).length h8).bind fun h9=>(((cy nm.2.1 h9 fun _=>some ((nm.2.1).set h9 [cE])).map fun H3=>(H3,nm.2.2)).map fun sF=>(nm.1,sF)).bind fun mr=>(cV (mr.2.2.1).length h8).bind fun Gp=>((((cy mr.2.2.1 Gp fun _=>some ((mr.2.2.1).set Gp aoW)).map fun Bj=>(Bj,mr.2.2.2)).map fun ws=>(mr.2.1,ws)).map fun H4=>(mr.1,H4)).bind fun Bk=>(zg (cE,())).bind fun(pT,_)=>bif !pT then some (Bk,233,()) else((bb Bk.1 h8).bind fun jG=>((hp 1).bind fun GC=>(some jG.length).bind fun GD=>(ia GC GD jG.length).map fun _=>(GC,GD)).bind fun Mt=>
 (loop (σ:=(Int×nT×Unit)) (ρ:=((nT×Unit)⊕(nT×Int×Unit))) (fun(yh,qs,_)=>bif decide (yh<aW ((jG.take Mt.2).drop Mt.1)) then(bb ((jG.take Mt.2).drop Mt.1) yh).bind fun q9=>(EB (some qs,oj,q9,h8,())).bind fun(Ho,_)=>(zh (cE,())).bind fun(ya,_)=>(Jk (Ho,ya,0,())).bind fun(tO,_)=>(zg (tO,())).bind fun(Du,_)=>bif !Du then some (.inr (.inr (qs,233,()))) else(cV (qs.2.2.1).length h8).bind fun sa=>(cV (qs.2.1).length h8).bind fun X3=>(cy qs.2.1 X3 fun Fo=>some Fo).bind fun avk=>(dA (avk.length+([tO]).length)).bind fun _=>(zh (tO,())).bind fun(Sf,_)=>(cV (qs.2.1).length h8).bind fun LF=>bif Nat.beq X3 LF&&true then(cy qs.2.1 LF fun aim=>some aim).bind fun avm=>(((cy qs.2.1 LF fun _=>some ((qs.2.1).set LF (avm++[tO]))).map fun avL=>(avL,qs.2.2)).map fun H7=>(qs.1,H7)).bind fun yz=>(cy yz.2.2.1 sa fun aio=>some aio).bind fun YX=>(vw YX q9 ((k2 (α:=d7) YX q9).getD (false,((false,([],())),((0:Int),()))))).bind fun aoU=>
 ((((cy yz.2.2.1 sa fun _=>some ((yz.2.2.1).set sa aoU)).map fun avM=>(avM,yz.2.2.2)).map fun H8=>(yz.2.1,H8)).map fun avN=>(yz.1,avN)).bind fun DR=>bif Nat.beq sa sa&&true then(cy DR.2.2.1 sa fun aip=>some aip).bind fun aoR=>(vw aoR q9 Sf).bind fun aoV=>((((cy DR.2.2.1 sa fun _=>some ((DR.2.2.1).set sa aoV)).map fun avO=>(avO,DR.2.2.2)).map fun avP=>(DR.2.1,avP)).map fun avQ=>(DR.1,avQ)).bind fun avR=>some (.inl (bR yh,avR,())) else none else none else some (.inr (.inl (qs,())))) (0,Bk,())).bind fun q=>match q with
 |.inl (ag9,_)=>(some (ag9,0,()))
 |.inr r=>some r))
def JL:gp->Option gp:=fun(fI,_)=>qP fI.length (some ([],())) ((dA (([]:bO).length+fI.length)).bind fun _=>some (([]++fI),()))
def I4:(Option nT×bO×Unit)->Option (pk×Unit):=fun(nm,mg,_)=>(JL (mg,())).bind fun(a9,_)=>nm.bind fun eK=>(loop (σ:=(Int×pk×pk×Unit)) (ρ:=(pk×pk×Unit)) (fun(gI,he,bU,_)=>bif decide (gI<aW eK.1) then nm.bind fun hH=>(bb hH.1 gI).bind fun dq=>(dA ((bU.2.2.1).length+dq.length)).bind fun _=>nm.bind fun hT=>(bb hT.2.1 gI).bind fun hU=>(dA (((bU.1,(bU.2.1,((bU.2.2.1++dq),bU.2.2.2))).2.2.2.1).length+hU.length)).bind fun _=>(dA ((((bU.1,(bU.2.1,((bU.2.2.1++dq),bU.2.2.2))).1,((bU.1,(bU.2.1,((bU.2.2.1++dq),bU.2.2.2))).2.1,((bU.1,(bU.2.1,((bU.2.2.1++dq),bU.2.2.2))).2.2.1,(((bU.1,(bU.2.1,((bU.2.2.1++dq),bU.2.2.2))).2.2.2.1++hU),(bU.1,(bU.2.1,((bU.2.2.1++dq),bU.2.2.2))).2.2.2.2)))).2.1).length+([aW (((bU.1,(bU.2.1,((bU.2.2.1++dq),bU.2.2.2))).1,((bU.1,(bU.2.1,((bU.2.2.1++dq),bU.2.2.2))).2.1,((bU.1,(bU.2.1,((bU.2.2.1++dq),bU.2.2.2))).2.2.1,(((bU.1,(bU.2.1,((bU.2.2.1++dq),bU.2.2.2))).2.2.2.1++hU),(bU.1,(bU.2.1,((bU.2.2.1++dq),bU.2.2.2))).2.2.2.2)))).2.2.1)]).length)).bind fun _=>
 some (.inl (bR gI,he,(((bU.1,(bU.2.1,((bU.2.2.1++dq),bU.2.2.2))).1,((bU.1,(bU.2.1,((bU.2.2.1++dq),bU.2.2.2))).2.1,((bU.1,(bU.2.1,((bU.2.2.1++dq),bU.2.2.2))).2.2.1,(((bU.1,(bU.2.1,((bU.2.2.1++dq),bU.2.2.2))).2.2.2.1++hU),(bU.1,(bU.2.1,((bU.2.2.1++dq),bU.2.2.2))).2.2.2.2)))).1,((((bU.1,(bU.2.1,((bU.2.2.1++dq),bU.2.2.2))).1,((bU.1,(bU.2.1,((bU.2.2.1++dq),bU.2.2.2))).2.1,((bU.1,(bU.2.1,((bU.2.2.1++dq),bU.2.2.2))).2.2.1,(((bU.1,(bU.2.1,((bU.2.2.1++dq),bU.2.2.2))).2.2.2.1++hU),(bU.1,(bU.2.1,((bU.2.2.1++dq),bU.2.2.2))).2.2.2.2)))).2.1++[aW (((bU.1,(bU.2.1,((bU.2.2.1++dq),bU.2.2.2))).1,((bU.1,(bU.2.1,((bU.2.2.1++dq),bU.2.2.2))).2.1,((bU.1,(bU.2.1,((bU.2.2.1++dq),bU.2.2.2))).2.2.1,(((bU.1,(bU.2.1,((bU.2.2.1++dq),bU.2.2.2))).2.2.2.1++hU),(bU.1,(bU.2.1,((bU.2.2.1++dq),bU.2.2.2))).2.2.2.2)))).2.2.1)]),((bU.1,(bU.2.1,((bU.2.2.1++dq),bU.2.2.2))).1,((bU.1,(bU.2.1,((bU.2.2.1++dq),bU.2.2.2))).2.1,((bU.1,(bU.2.1,((bU.2.2.1++dq),bU.2.2.2))).2.2.1,(((bU.1,(bU.2.1,((bU.2.2.1++dq),bU.2.2.2))).2.2.2.1++hU),(bU.1,(bU.2.1,((bU.2.2.1++dq),bU.2.2.2))).2.2.2.2)))).2.2)),())) else
 some (.inr (he,bU,()))) (0,([],([],([],([],())))),(a9,([0],(([]:bO),(([]:bO),())))),())).bind fun(_,ajw,_)=>some (ajw,())
def wV:(cR×bO×Unit)->Option Nt:=fun(bt,mg,_)=>(zr (bt,mg,())).bind fun(a9,bD,_)=>(bif bD !=0 then some ((([]:bO),(([]:bO),(([]:bO),(([]:bO),())))),0,bD,()) else((I2 (a9,())).bind fun(bW,_)=>a9.bind fun eH=>(loop (σ:=(Int×pk×nT×Unit)) (ρ:=((pk×nT×Unit)⊕Nt)) (fun(hf,lH,US,_)=>bif decide (hf<eH.1) then(I3 (US,a9,hf,())).bind fun(QZ,ij,_)=>bif ij==0 then some (.inl (bR hf,lH,QZ,())) else bif ij==231 then some (.inr (.inr ((([]:bO),(([]:bO),(([]:bO),(([]:bO),())))),hf,ij,()))) else some (.inr (.inr ((([]:bO),(([]:bO),(([]:bO),(([]:bO),())))),0,ij,()))) else some (.inr (.inl (lH,US,())))) (0,([],([],([],([],())))),bW,())).bind fun q=>match q with
 |.inl (_,NT,_)=>((I4 (some NT,mg,())).bind fun(k7,_)=>a9.bind fun Bf=>some (k7,Bf.1,0,()))
 |.inr r=>some r))
def On:oM->Option gV:=fun(bt,cS,_)=>(bif aW bt !=aW cS then some (false,()) else((loop (σ:=cb) (ρ:=sU) (fun(eE,_)=>bif decide (eE<aW bt) then(bb bt eE).bind fun eK=>(bb cS eE).bind fun e8=>bif eK !=e8 then some (.inr (.inr (false,()))) else some (.inl (bR eE,())) else some (.inr (.inl ()))) (0,())).bind fun q=>match q with
 |.inl _=>(some (true,()))
 |.inr r=>some r))
def EZ:Unit->Option gV:=fun _=>(zp (4,0,())).bind fun(bX,_)=>(zp (2,0,())).bind fun(bn,_)=>(zp (5,0,())).bind fun(a9,_)=>(wV ((2,(2,([0,2,3],([0,1,1],([bX,bn,a9],()))))),[0,1],())).bind fun(bD,bW,cE,_)=>(bif (cE==0)==true then bif (bW==2)==true then(EY (bD.2.1,[0,2,3],())).bind fun(dB,_)=>bif dB==true then(On (bD.2.2.2.1,[bn,4607182418800017408,bn],())).bind fun(fj,_)=>some (fj,()) else some (false,()) else some (false,()) else some (false,()))
def w1:qo->Option cb:=fun(bt,dc,_)=>(jB (bo bt) (bo dc)).bind fun gk=>some (aY gk,())
def EW:rr->Option cb:=fun(nF,xE,_)=>Option.bind (α:=cb) (bif decide (aW nF>0) then(w1 (xE,aW nF,())).bind fun(a9,_)=>(bb nF a9).bind fun eK=>some (yv IntKind.u64 (bo (bo (bR xE)*11400714819323198485)) eK,()) else some (bo (bo (bR xE)*11400714819323198485),())) fun(yu,_)=>(ec IntKind.u64 yu 31).bind fun eH=>(ec IntKind.u64 (bo (yv IntKind.u64 yu eH*13787848793156543929)) 29).bind fun gm=>some (yv IntKind.u64 (bo (yv IntKind.u64 yu eH*13787848793156543929)) gm,())
def Om:cb->Option cb:=fun(cA,_)=>(jB cA 19).bind fun dL=>(zp (aY (aY dL-9),0,())).bind fun(a9,_)=>some (a9,())
def JT:qo->Option cb:=fun(cA,aud,_)=>(w1 (aud,4,())).bind fun(a9,_)=>(bif a9==1 then(ec IntKind.u64 cA 52).bind fun eK=>(iE IntKind.u64 (bo (1019+eg IntKind.u64 eK 7)) 52).bind fun e8=>some (fr IntKind.u64 (eg IntKind.u64 cA 9227875636482146303) e8,()) else bif a9==2 then(ec IntKind.u64 cA 8).bind fun eH=>(jB eH 81).bind fun gm=>(iE IntKind.u64 (bo (983+gm)) 52).bind fun hH=>some (fr IntKind.u64 (eg IntKind.u64 cA 9225623836668461056) hH,()) else bif a9==3 then(Ce (cA,())).bind fun(gO,_)=>bif !gO then some (0,()) else some (cA,()) else(Om (cA,())).bind fun(hd,_)=>some (hd,()))
def EU:(bO×Int×Int×Int×Unit)->Option oN:=fun(nF,Sw,Vd,aue,_)=>(loop (σ:=(Int×cR×cR×Unit)) (ρ:=(cR×cR×Unit)) (fun(Qx,he,GS,_)=>bif decide (Qx<Vd) then(loop (σ:=(Int×cR×cR×Unit)) (ρ:=(cR×cR×Unit)) (fun(iy,iU,gb,_)=>bif decide (iy<Sw) then Option.bind (α:=(cR×cR×Unit)) ((EW (nF,aY (aY (100+aY (Qx*Sw))+iy),())).bind fun(ij,_)=>(ec IntKind.u64 ij 40).bind fun c1=>(jB c1 3).bind fun kb=>bif decide (kb>0) then(dA ((gb.2.2.2.1).length+([iy]).length)).bind fun _=>(JT (ij,aue,())).bind fun(k7,_)=>(dA (((gb.1,(gb.2.1,(gb.2.2.1,((gb.2.2.2.1++[iy]),gb.2.2.2.2)))).2.2.2.2.1).length+([k7]).length)).bind fun _=>some (iU,((gb.1,(gb.2.1,(gb.2.2.1,((gb.2.2.2.1++[iy]),gb.2.2.2.2)))).1,((gb.1,(gb.2.1,(gb.2.2.1,((gb.2.2.2.1++[iy]),gb.2.2.2.2)))).2.1,((gb.1,(gb.2.1,(gb.2.2.1,((gb.2.2.2.1++[iy]),gb.2.2.2.2)))).2.2.1,((gb.1,(gb.2.1,(gb.2.2.1,((gb.2.2.2.1++[iy]),gb.2.2.2.2)))).2.2.2.1,(((gb.1,(gb.2.1,(gb.2.2.1,((gb.2.2.2.1++[iy]),gb.2.2.2.2)))).2.2.2.2.1++[k7]),(gb.1,(gb.2.1,(gb.2.2.1,((gb.2.2.2.1++[iy]),gb.2.2.2.2)))).2.2.2.2.2))))),()) else
 some (iU,gb,())) fun(pZ,aog,_)=>some (.inl (bR iy,pZ,aog,())) else some (.inr (iU,gb,()))) (0,he,GS,())).bind fun(yf,sb,_)=>(dA ((sb.2.2.1).length+([aW sb.2.2.2.1]).length)).bind fun _=>some (.inl (bR Qx,yf,(sb.1,(sb.2.1,((sb.2.2.1++[aW sb.2.2.2.1]),sb.2.2.2))),())) else some (.inr (he,GS,()))) (0,((0:Int),((0:Int),([],([],([],()))))),(Sw,(Vd,([0],(([]:bO),(([]:bO),()))))),())).bind fun(_,aoh,_)=>some (aoh,())
def Ka:gp->Option gV:=fun(fC,_)=>(loop (σ:=cb) (ρ:=sU) (fun(g0,_)=>bif decide (g0<aW fC) then(bb fC g0).bind fun gk=>(Ce (gk,())).bind fun(bD,_)=>bif !bD then some (.inr (.inr (false,()))) else some (.inl (bR g0,())) else some (.inr (.inl ()))) (0,())).bind fun q=>match q with
 |.inl _=>(some (true,()))
 |.inr r=>some r
def w4:oN->Option cb:=fun(bV,_)=>Option.bind (α:=Unit⊕cb) (bif decide (bV.1<0)==false then bif decide (bV.1>200)==false then bif decide (bV.2.1<0)==false then bif decide (bV.2.1>200)==false then bif decide (aW bV.2.2.2.1>10000) then some (.inr (6,())) else some (.inl ()) else some (.inr (6,())) else some (.inr (6,())) else some (.inr (6,())) else some (.inr (6,()))) fun q=>match q with
 |.inl _=>(Option.bind (α:=Unit⊕cb) (bif (aW bV.2.2.2.2.1 !=aW bV.2.2.2.1)==false then bif (aW bV.2.2.1 !=bR bV.2.1)==false then(bb bV.2.2.1 0).bind fun dL=>bif (dL !=0)==false then(bb bV.2.2.1 bV.2.1).bind fun gk=>bif gk !=aW bV.2.2.2.1 then some (.inr (1,())) else some (.inl ()) else some (.inr (1,())) else some (.inr (1,())) else some (.inr (1,()))) fun q=>match q with
 |.inl _=>((loop (σ:=cb) (ρ:=rq) (fun(qL,_)=>bif decide (qL<bV.2.1) then(bb bV.2.2.1 qL).bind fun e8=>(bb bV.2.2.1 (bR qL)).bind fun eH=>bif decide (e8>eH) then some (.inr (.inr (1,()))) else some (.inl (bR qL,())) else some (.inr (.inl ()))) (0,())).bind fun q=>match q with
 |.inl _=>((loop (σ:=cb) (ρ:=rq) (fun(o0,_)=>bif decide (o0<bV.2.1) then((bb bV.2.2.1 o0).bind fun hH=>(loop (σ:=cb) (ρ:=(Unit⊕(cb⊕rq))) (fun(Ao,_)=>(bb bV.2.2.1 (bR o0)).bind fun hT=>bif decide (Ao<hT) then(Option.bind (α:=Unit⊕(cb⊕(Unit⊕(cb⊕rq)))) ((bb bV.2.2.2.1 Ao).bind fun hU=>bif decide (hU<0)==false then(bb bV.2.2.2.1 Ao).bind fun c1=>bif decide (c1>=bV.1)==false then(bb bV.2.2.1 o0).bind fun kb=>bif decide (Ao>kb)==true then(bb bV.2.2.2.1 Ao).bind fun wm=>(bb bV.2.2.2.1 (aY (Ao-1))).bind fun Bf=>bif decide (wm<=Bf) then some (.inr (.inr (.inr (.inr (.inr (1,())))))) else some (.inl ()) else some (.inl ()) else some (.inr (.inr (.inr (.inr (.inr (1,())))))) else some (.inr (.inr (.inr (.inr (.inr (1,()))))))) fun q=>match q with
 |.inl _=>(some (.inl (bR Ao,())))
 |.inr r=>some r) else some (.inr (.inl ()))) (hH,())).bind fun q=>match q with
 |.inl _=>(some (.inl (bR o0,())))
 |.inr r=>some r) else some (.inr (.inl ()))) (0,())).bind fun q=>match q with
 |.inl _=>((Ka (bV.2.2.2.2.1,())).bind fun(oq,_)=>bif !oq then some (4,()) else some (0,()))
 |.inr r=>some r)
 |.inr r=>some r)
 |.inr r=>some r)
 |.inr r=>some r
def zq:(cR×Int×Int×Unit)->Option cb:=fun(bV,g0,h8,_)=>Option.bind (α:=Unit⊕cb) ((w4 (bV,())).bind fun(bD,_)=>bif (bD !=0)==false then bif decide (h8<0)==false then bif decide (h8>=bV.2.1) then some (.inr (0,())) else some (.inl ()) else some (.inr (0,())) else some (.inr (0,()))) fun q=>match q with
 |.inl _=>((bb bV.2.2.1 h8).bind fun e8=>(loop (σ:=cb) (ρ:=rq) (fun(tA,_)=>(bb bV.2.2.1 (bR h8)).bind fun gm=>bif decide (tA<gm) then(bb bV.2.2.2.1 tA).bind fun hH=>bif hH==g0 then(bb bV.2.2.2.2.1 tA).bind fun dq=>some (.inr (.inr (dq,()))) else some (.inl (bR tA,())) else some (.inr (.inl ()))) (e8,())).bind fun q=>match q with
 |.inl _=>(some (0,()))
 |.inr r=>some r)
 |.inr r=>some r
def E8:(cR×Int×Int×Unit)->Option gV:=fun(bV,g0,h8,_)=>Option.bind (α:=Unit⊕gV) (bif decide (g0<0)==false then bif decide (g0>=bV.1)==false then bif decide (h8<0)==false then bif decide (h8>=bV.2.1) then some (.inr (false,())) else some (.inl ()) else some (.inr (false,())) else some (.inr (false,())) else some (.inr (false,()))) fun q=>match q with
 |.inl _=>((bb bV.2.2.1 h8).bind fun eK=>(loop (σ:=cb) (ρ:=sU) (fun(kD,_)=>(bb bV.2.2.1 (bR h8)).bind fun eH=>bif decide (kD<eH) then(bb bV.2.2.2.1 kD).bind fun gm=>bif gm==g0 then some (.inr (.inr (true,()))) else some (.inl (bR kD,())) else some (.inr (.inl ()))) (eK,())).bind fun q=>match q with
 |.inl _=>(some (false,()))
 |.inr r=>some r)
 |.inr r=>some r
def JS:(bO×Int×Int×Unit)->Option oN:=fun(nF,dc,DG,_)=>(w1 (DG,3,())).bind fun(bD,_)=>(EU (nF,dc,dc,bD,())).bind fun(bW,_)=>(loop (σ:=(Int×cR×cR×cR×Unit)) (ρ:=(cR×cR×Unit)) (fun(lC,hf,aj1,YJ,_)=>bif decide (lC<dc) then(loop (σ:=(Int×cR×cR×cR×Unit)) (ρ:=(cR×cR×cR×Unit)) (fun(je,jh,Cp,fV,_)=>bif decide (je<dc) then Option.bind (α:=(cR×cR×cR×Unit)) (bif je==lC then(E4 (1,())).bind fun(k7,_)=>(loop (σ:=(Int×cR×cR×cR×rp×Unit)) (ρ:=(cR×cR×cR×rp×Unit)) (fun(An,A0,KO,sb,vX,_)=>bif decide (An<dc) then Option.bind (α:=(cR×cR×cR×rp×Unit)) (bif An !=je then(zq (KO,(if An>je then An else je),(if An<je then An else je),())).bind fun(Sb,_)=>(J8 (Sb,())).bind fun(pT,_)=>(J3 (pT,())).bind fun(Mx,_)=>(dA (vX.length+([Mx]).length)).bind fun _=>some (A0,KO,sb,(vX++[Mx]),()) else some (A0,KO,sb,vX,())) fun(atz,ajX,aoi,yh,_)=>
 some (.inl (bR An,atz,ajX,aoi,yh,())) else some (.inr (A0,KO,sb,vX,()))) (0,jh,Cp,fV,[k7],())).bind fun(Dy,KP,gF,Dz,_)=>(dA ((gF.2.2.2.1).length+([je]).length)).bind fun _=>(J5 (Dz,())).bind fun(tO,_)=>(E5 (tO,2,())).bind fun(Du,_)=>(dA (((gF.1,(gF.2.1,(gF.2.2.1,((gF.2.2.2.1++[je]),gF.2.2.2.2)))).2.2.2.2.1).length+([Du]).length)).bind fun _=>some (Dy,KP,((gF.1,(gF.2.1,(gF.2.2.1,((gF.2.2.2.1++[je]),gF.2.2.2.2)))).1,((gF.1,(gF.2.1,(gF.2.2.1,((gF.2.2.2.1++[je]),gF.2.2.2.2)))).2.1,((gF.1,(gF.2.1,(gF.2.2.1,((gF.2.2.2.1++[je]),gF.2.2.2.2)))).2.2.1,((gF.1,(gF.2.1,(gF.2.2.1,((gF.2.2.2.1++[je]),gF.2.2.2.2)))).2.2.2.1,(((gF.1,(gF.2.1,(gF.2.2.1,((gF.2.2.2.1++[je]),gF.2.2.2.2)))).2.2.2.2.1++[Du]),(gF.1,(gF.2.1,(gF.2.2.1,((gF.2.2.2.1++[je]),gF.2.2.2.2)))).2.2.2.2.2))))),()) else(E8 (Cp,je,lC,())).bind fun(Se,_)=>bif Se then(dA ((fV.2.2.2.1).length+([je]).length)).bind fun _=>(zq (Cp,je,lC,())).bind fun(aay,_)=>
 (dA (((fV.1,(fV.2.1,(fV.2.2.1,((fV.2.2.2.1++[je]),fV.2.2.2.2)))).2.2.2.2.1).length+([aay]).length)).bind fun _=>some (jh,Cp,((fV.1,(fV.2.1,(fV.2.2.1,((fV.2.2.2.1++[je]),fV.2.2.2.2)))).1,((fV.1,(fV.2.1,(fV.2.2.1,((fV.2.2.2.1++[je]),fV.2.2.2.2)))).2.1,((fV.1,(fV.2.1,(fV.2.2.1,((fV.2.2.2.1++[je]),fV.2.2.2.2)))).2.2.1,((fV.1,(fV.2.1,(fV.2.2.1,((fV.2.2.2.1++[je]),fV.2.2.2.2)))).2.2.2.1,(((fV.1,(fV.2.1,(fV.2.2.1,((fV.2.2.2.1++[je]),fV.2.2.2.2)))).2.2.2.2.1++[aay]),(fV.1,(fV.2.1,(fV.2.2.1,((fV.2.2.2.1++[je]),fV.2.2.2.2)))).2.2.2.2.2))))),()) else some (jh,Cp,fV,())) fun(SD,ajY,aol,_)=>some (.inl (bR je,SD,ajY,aol,())) else some (.inr (jh,Cp,fV,()))) (0,hf,aj1,YJ,())).bind fun(ML,KR,vy,_)=>(dA ((vy.2.2.1).length+([aW vy.2.2.2.1]).length)).bind fun _=>some (.inl (bR lC,ML,KR,(vy.1,(vy.2.1,((vy.2.2.1++[aW vy.2.2.2.1]),vy.2.2.2))),())) else some (.inr (hf,YJ,()))) (0,((0:Int),((0:Int),([],([],([],()))))),bW,(dc,(dc,([0],(([]:bO),(([]:bO),()))))),())).bind fun(_,aom,_)=>
 some (aom,())
def EV:rr->Option gp:=fun(nF,dc,_)=>(loop (σ:=rr) (ρ:=gp) (fun(k5,ek,_)=>bif decide (ek<dc) then(EW (nF,aY (700+ek),())).bind fun(bW,_)=>(ec IntKind.u64 bW 1).bind fun eH=>(w1 (aY eH,bR ek,())).bind fun(dB,_)=>((some (0)).bind fun xH=>(hp dB).bind fun xI=>(ia xH xI k5.length).map fun _=>(xH,xI)).bind fun mj=>(dA (([]:bO).length+((k5.take mj.2).drop mj.1).length)).bind fun _=>(dA (([]++((k5.take mj.2).drop mj.1)).length+([ek]).length)).bind fun _=>((hp dB).bind fun GA=>(some k5.length).bind fun GB=>(ia GA GB k5.length).map fun _=>(GA,GB)).bind fun Ms=>(dA ((([]++((k5.take mj.2).drop mj.1))++[ek]).length+((k5.take Ms.2).drop Ms.1).length)).bind fun _=>some (.inl (((([]++((k5.take mj.2).drop mj.1))++[ek])++((k5.take Ms.2).drop Ms.1)),bR ek,())) else some (.inr (k5,()))) ([],0,())).bind fun(qR,_)=>some (qR,())
def JW:(bO×Int×Int×Bool×Unit)->Option (cR×bO×Unit):=fun(nF,dc,DG,ah2,_)=>(w1 (dc,6,())).bind fun(bW,_)=>(bif ah2 then(JS (nF,bW,DG,())).bind fun(cE,_)=>(EV (nF,bW,())).bind fun(dB,_)=>some (cE,dB,()) else(EU (nF,bW,bW,DG,())).bind fun(fj,_)=>(EV (nF,bW,())).bind fun(gO,_)=>some (fj,gO,()))
def E7:oN->Option lj:=fun(bV,_)=>(w4 (bV,())).bind fun(k7,_)=>(bif k7 !=0 then some ([],()) else(loop (σ:=uz) (ρ:=lj) (fun(CX,sh,_)=>bif decide (CX<bV.2.1) then(bb bV.2.2.1 CX).bind fun sD=>(loop (σ:=uz) (ρ:=lj) (fun(LI,x3,_)=>(bb bV.2.2.1 (bR CX)).bind fun yw=>bif decide (LI<yw) then(bb bV.2.2.2.1 LI).bind fun oB=>(bb bV.2.2.2.2.1 LI).bind fun jG=>(dA (x3.length+([(oB,(CX,(jG,())))]).length)).bind fun _=>some (.inl (bR LI,(x3++[(oB,(CX,(jG,())))]),())) else some (.inr (x3,()))) (sD,sh,())).bind fun(arG,_)=>some (.inl (bR CX,arG,())) else some (.inr (sh,()))) (0,[],())).bind fun(arH,_)=>some (arH,()))
def Kc:Nu->Option oN:=fun(yc,uH,C2,_)=>(gG (aY (yc*uH)) (aY (yc*uH))).bind fun o3=>(loop (σ:=(Int×cR×cR×bO×Unit)) (ρ:=(cR×cR×bO×Unit)) (fun(vh,he,GS,UX,_)=>bif decide (vh<aW C2) then(bb C2 vh).bind fun dq=>(bb C2 vh).bind fun hT=>wr UX (aY (aY (dq.2.1*yc)+hT.1)) (bR vh) fun sF=>some (.inl (bR vh,he,GS,sF,())) else some (.inr (he,GS,UX,()))) (0,((0:Int),((0:Int),([],([],([],()))))),(yc,(uH,([0],(([]:bO),(([]:bO),()))))),List.replicate o3 (0:Int),())).bind fun(tU,aof,ahi,_)=>(loop (σ:=(Int×cR×cR×bO×Unit)) (ρ:=(cR×cR×Unit)) (fun(Qw,tV,YG,ahj,_)=>bif decide (Qw<uH) then(loop (σ:=(Int×cR×cR×bO×Unit)) (ρ:=(cR×cR×bO×Unit)) (fun(r6,A1,fE,IV,_)=>bif decide (r6<yc) then Option.bind (α:=(cR×cR×bO×Unit)) (rd IV (aY (aY (Qw*yc)+r6)) fun p7=>bif decide (p7>0) then(dA ((fE.2.2.2.1).length+([r6]).length)).bind fun _=>(bb C2 (aY (p7-1))).bind fun q9=>
 (dA (((fE.1,(fE.2.1,(fE.2.2.1,((fE.2.2.2.1++[r6]),fE.2.2.2.2)))).2.2.2.2.1).length+([q9.2.2.1]).length)).bind fun _=>some (A1,((fE.1,(fE.2.1,(fE.2.2.1,((fE.2.2.2.1++[r6]),fE.2.2.2.2)))).1,((fE.1,(fE.2.1,(fE.2.2.1,((fE.2.2.2.1++[r6]),fE.2.2.2.2)))).2.1,((fE.1,(fE.2.1,(fE.2.2.1,((fE.2.2.2.1++[r6]),fE.2.2.2.2)))).2.2.1,((fE.1,(fE.2.1,(fE.2.2.1,((fE.2.2.2.1++[r6]),fE.2.2.2.2)))).2.2.2.1,(((fE.1,(fE.2.1,(fE.2.2.1,((fE.2.2.2.1++[r6]),fE.2.2.2.2)))).2.2.2.2.1++[q9.2.2.1]),(fE.1,(fE.2.1,(fE.2.2.1,((fE.2.2.2.1++[r6]),fE.2.2.2.2)))).2.2.2.2.2))))),IV,()) else some (A1,fE,IV,())) fun(m7,aoj,ahk,_)=>some (.inl (bR r6,m7,aoj,ahk,())) else some (.inr (A1,fE,IV,()))) (0,tV,YG,ahj,())).bind fun(p0,Ay,ahl,_)=>(dA ((Ay.2.2.1).length+([aW Ay.2.2.2.1]).length)).bind fun _=>some (.inl (bR Qw,p0,(Ay.1,(Ay.2.1,((Ay.2.2.1++[aW Ay.2.2.2.1]),Ay.2.2.2))),ahl,())) else some (.inr (tV,YG,()))) (0,tU,aof,ahi,())).bind fun(_,aok,_)=>
 some (aok,())
def Kb:oN->Option (cR×Int×Unit):=fun(bV,_)=>(w4 (bV,())).bind fun(bD,_)=>(bif bD !=0 then some (((0:Int),((0:Int),(([]:bO),(([]:bO),(([]:bO),()))))),bD,()) else(E7 (bV,())).bind fun(bW,_)=>(loop (σ:=(Int×cR×mF×Unit)) (ρ:=(cR×mF×Unit)) (fun(tA,hf,mh,_)=>bif decide (tA<aW bW) then Option.bind (α:=(cR×mF×Unit)) ((bb bW tA).bind fun dq=>(bb bW tA).bind fun hT=>bif decide (dq.1>=hT.2.1) then(bb bW tA).bind fun hU=>(dA (mh.length+([hU]).length)).bind fun _=>some (hf,(mh++[hU]),()) else some (hf,mh,())) fun(ov,o6,_)=>some (.inl (bR tA,ov,o6,())) else some (.inr (hf,mh,()))) (0,((0:Int),((0:Int),([],([],([],()))))),[],())).bind fun(_,Hi,_)=>(Kc (bV.1,bV.2.1,Hi,())).bind fun(oq,_)=>some (oq,0,()))
def Kf:oN->Option ((List bO×Unit)×Int×Unit):=fun(bV,_)=>(w4 (bV,())).bind fun(bn,_)=>(bif bn !=0 then some ((([]:List bO),()),bn,()) else bif bV.1 !=bV.2.1 then some ((([]:List bO),()),5,()) else(Fc (bV.1,())).bind fun(a9,_)=>(E7 (bV,())).bind fun(bD,_)=>(loop (σ:=(Int×(List bO×Unit)×List ro×Unit)) (ρ:=((List bO×Unit)×List ro×Unit)) (fun(kD,he,HI,_)=>bif decide (kD<aW bD) then(bb bD kD).bind fun hH=>(cV HI.length hH.1).bind fun kn=>(bb bD kD).bind fun hU=>((cy HI kn fun Fi=>some Fi).bind fun Oy=>cV Oy.length hU.2.1).bind fun qM=>(cy HI kn fun zA=>(cy zA qM fun _=>some (zA.set qM true)).map fun Bj=>HI.set kn Bj).bind fun ws=>some (.inl (bR kD,he,ws,())) else some (.inr (he,HI,()))) (0,([],()),a9,())).bind fun(_,auk,_)=>(E9 (auk,())).bind fun(pT,_)=>some (pT,0,()))
def Oo:(bO×Int×Int×Unit)->Option gV:=fun(nF,dc,DG,_)=>(JW (nF,dc,DG,true,())).bind fun(bD,bW,_)=>(wV (bD,bW,())).bind fun(cE,_,fj,_)=>(bif fj !=0 then(EZ ()).bind fun(gO,_)=>some (gO,()) else(Kb (bD,())).bind fun(hd,_,_)=>(Kf (hd,())).bind fun(k6,_,_)=>(Fa (k6,bW,())).bind fun(k7,_,_)=>(Ki (k7,())).bind fun(oq,_,_)=>bif aW cE.2.1 !=bR (aW oq) then some (false,()) else((loop (σ:=(Int×pk×Unit)) (ρ:=sU) (fun(vl,n1,_)=>bif decide (vl<aW oq) then(Option.bind (α:=(pk×Unit)⊕((Int×pk×Unit)⊕sU)) ((bb n1.2.1 vl).bind fun yw=>bif decide (yw<0)==false then(bb n1.2.1 vl).bind fun oB=>(bb n1.2.1 (bR vl)).bind fun jG=>bif decide (oB>jG)==false then(bb n1.2.1 (bR vl)).bind fun HY=>bif decide (HY>aW n1.2.2.1)==false then(bb n1.2.1 vl).bind fun Th=>(bb n1.2.1 (bR vl)).bind fun ua=>((hp Th).bind fun Ye=>(hp ua).bind fun Yf=>(ia Ye Yf (n1.2.2.1).length).map fun _=>(Ye,Yf)).bind fun aaq=>
 (bb oq vl).bind fun Bg=>(EY ((((n1.2.2.1).take aaq.2).drop aaq.1),Bg,())).bind fun(ya,_)=>bif !ya then some (.inr (.inr (.inr (false,())))) else some (.inl (n1,())) else some (.inr (.inr (.inr (false,())))) else some (.inr (.inr (.inr (false,())))) else some (.inr (.inr (.inr (false,()))))) fun q=>match q with
 |.inl (ajB,_)=>(some (.inl (bR vl,ajB,())))
 |.inr r=>some r) else some (.inr (.inl ()))) (0,cE,())).bind fun q=>match q with
 |.inl _=>((EZ ()).bind fun(Du,_)=>some (Du,()))
 |.inr r=>some r))
end Go.lP
section
namespace Go.Proofs
open Go.RowKit Go.Shelf Go.Sort
attribute [local go_sem] Oper.semAt_some
def Tryz.anz:Go.Shelf.Ren:=⟨fun|20=>275|n=>n,fun|22=>23|3=>3|4=>4|0=>0|n=>n,fun|n=>n⟩
theorem Tryz.Yo:Lays2.n20 Tryz.prog Tryz.anz where
 mixed:=by kernel_rfl
 f20:=Tryz.func275.trans (congrArg some (by kernel_rfl))
 t0:=Tryz.underlying0
 a0:=Tryz.isAgg0
 z0:=Tryz.sizeOf0
 v0:=Tryz.zeroValue0
 t3:=Tryz.underlying3
 a3:=Tryz.isAgg3
 z3:=Tryz.sizeOf3
 v3:=Tryz.zeroValue3
 t4:=Tryz.underlying4
 a4:=Tryz.isAgg4
 z4:=Tryz.sizeOf4
 v4:=Tryz.zeroValue4
 t22:=Tryz.underlying23
 a22:=Tryz.isAgg23
 z22:=Tryz.sizeOf23
 v22:=Tryz.zeroValue23
 i3:=by kernel_rfl
namespace TR
def oA {α:Type} (f:Nat->α) (k:Nat):List α:=(List.range k).map f
theorem abW {α:Type} (f:Nat->α) (k:Nat):oA f (k+1)=oA f k++[f k]:=by simp[oA,rj]
theorem auP {α:Type} (f:Nat->α) (k:Nat):(oA f k).length=k:=by simp[oA]
theorem auO (zs:List Int):oA (fun j=>zs[j]?.getD 0) zs.length=zs:=by
 apply List.ext_getElem
 ·simp[oA]
 ·intro i J R;simp[oA,R]
set_option maxRecDepth 100000 in
set_option maxHeartbeats 2000000 in
theorem auY (F:Fence) (n:Nat) (eO:F.fn 290) (jd:F.round=none) (ag:1<=n) (l hu o4 b off len cap:Nat) (zs:List Int) (vd:len*8<=140737488351232) (aa:b<o4) (c2 Ij:List Int->World->Prop) (Pq:∀pre x W,c2 pre W->pre.length<len->YieldAt F (n-1) Tryz.prog l #[.int .i64 x] W fun e f8=>
  (e=.returned (.bool true)/\c2 (pre++[x]) f8/\Below o4 W f8)\/(e=.returned (.bool false)/\Ij (pre++[x]) f8))
 (W:World) (rR:W.cell? ⟨hu,0,none⟩=some (.slice (some ⟨b,off,none⟩) len cap)) (hc:∀j,j<len->W.cell? ⟨b,off+j,none⟩=some (.int .i64 (zs[j]?.getD 0))) (aU:c2 [] W):
 CallsIn F n Tryz.prog 290 #[.func (.yield l) #[] #[],.pointer (some ⟨hu,0,none⟩)] W fun e f8=>(∃v,e=.returned v)/\((∃aS,aS=oA (fun j=>zs[j]?.getD 0) len/\c2 aS f8)\/(∃pre,(∃k,k<=len/\pre=oA (fun j=>zs[j]?.getD 0) k)/\Ij pre f8)):=by
 refine callsIn_of_wp Tryz.func290 rfl eO ?_ jd;simp only[Tryz.ntmps290,wF,kc,us,Nat.reduceAdd,Nat.reduceSub,Br,Bs,BD,Bz,hj,mz]
 gi_wp2
 gi_loopw [7] (fun i wr=>∃k:Nat,k<=len/\i=.int .i64 k/\c2 (oA (fun j=>zs[j]?.getD 0) k) wr/\Below o4 W wr) (fun i _=>len-(intOf i).toNat)
 case atStart=>exact⟨0,eL _,rfl,aU,Below.refl _ _⟩
 case round=>
  obtain⟨k,ac,rfl,KW,pJ⟩:=hrel;have akW:k<len->wr.cell? ⟨b,off+k,none⟩=some (.int .i64 (zs[k]?.getD 0)):=fun h=>(pJ.cell (p:=⟨b,off+k,none⟩) aa).trans (hc k h);by_cases cg:k<len
  ·obtain⟨fn,tmps,assign,body,aB,ar⟩:=Pq _ (zs[k]?.getD 0) wr KW (by rw[auP];exact cg);have awr:=akW cg
   gi_wp2
   refine ar.mono ?_;rintro e av2 (⟨rfl,akq,FV⟩|⟨rfl,akr⟩)
   ·gi_wp2
    go_roundw
    case rel=>exact⟨k+1,by omega,by simp,by rw[abW];exact akq,pJ.trans FV⟩
    case measure=>simp[intOf];omega
   ·gi_wp2
    refine bodyPost_ret (results_none rfl _ _ _) rfl ?_;exact⟨⟨_,rfl⟩,.inr ⟨_,⟨k+1,by omega,(abW _ _).symm⟩,akr⟩⟩
  ·obtain rfl:k=len:=by omega
   gi_wp2
   go_end0
   exact⟨⟨_,rfl⟩,.inl ⟨_,rfl,KW⟩⟩
theorem auQ (zs:List Int) {k:Nat} (ac:k<=zs.length):oA (fun j=>zs[j]?.getD 0) k=zs.take k:=by
 apply List.ext_getElem
 ·simp[oA,ac]
 ·intro i J R;have:i<zs.length:=(by simp[oA] at J;omega);simp[oA,this]
def sH (o4:Nat) (W:World) (kI:Value) (zs:List Int):Prop:=
 (∃a cap,kI=.slice a 0 cap/\zs=[])\/∃b off cap,kI=.slice (some ⟨b,off,none⟩) zs.length cap/\b<o4/\∀j,j<zs.length->W.cell? ⟨b,off+j,none⟩=some (.int .i64 (zs[j]?.getD 0))
theorem sH.below {o4:Nat} {A B:World} (h:Below o4 A B) {kI:Value} {zs:List Int}:sH o4 A kI zs->sH o4 B kI zs
 |.inl e=>.inl e
 |.inr ⟨b,off,cap,e,aa,hc⟩=>.inr ⟨b,off,cap,e,aa,fun j al=>(h.cell (p:=⟨b,off+j,none⟩) aa).trans (hc j al)⟩
set_option maxRecDepth 100000 in
set_option maxHeartbeats 1000000 in
theorem auZ (F:Fence) (n:Nat) (eO:F.fn 290) (jd:F.round=none) (l hu:Nat) (a:Option Addr) (cap:Nat) (c2:List Int->World->Prop) (W:World) (rR:W.cell? ⟨hu,0,none⟩=some (.slice a 0 cap)) (aU:c2 [] W):CallsIn F n Tryz.prog 290 #[.func (.yield l) #[] #[],.pointer (some ⟨hu,0,none⟩)] W fun e f8=>(∃v,e=.returned v)/\c2 [] f8:=by
 refine callsIn_of_wp Tryz.func290 rfl eO ?_ jd;simp only[Tryz.ntmps290,wF,kc,us,Nat.reduceAdd,Nat.reduceSub,Br,Bs,BD,Bz,hj,mz]
 gi_wp2
 gi_loopw [7] (fun i wr=>i=.int .i64 0/\c2 [] wr) (fun _ _=>0)
 case atStart=>exact⟨rfl,aU⟩
 case round=>
  obtain⟨rfl,KW⟩:=hrel
  gi_wp2
  go_end0
  exact⟨⟨_,rfl⟩,KW⟩
set_option maxHeartbeats 1000000 in
theorem au0 (F:Fence) (n:Nat) (aX:F.fn 277) (jd:F.round=none) (a:Option Addr) (len cap:Nat) (w:World):CallsIn F n Tryz.prog 277 #[.slice a len cap] w fun e w'=>e=.returned (.func (.func 290) #[] #[.pointer (some ⟨w.heap.size,0,none⟩)])/\w'=w.alloc (.cells #[.slice a len cap] 23):=by
 refine callsIn_of_wp Tryz.func277 rfl aX ?_ jd;simp only[Tryz.ntmps277,wF,kc,us,Nat.reduceAdd,Nat.reduceSub,Br,Bs,BD,Bz,hj,mz]
 gi_wp2
 go_ret
 exact⟨rfl,rfl⟩
theorem au1 (F:Fence) (n:Nat) (eO:F.fn 290) (jd:F.round=none) (ag:1<=n) (hu o4:Nat) (kI:Value) (zs:List Int) (vd:zs.length*8<=140737488351232) (w:World) (rR:hu<w.heap.size) (alQ:o4<=w.heap.size) (hc:w.cell? ⟨hu,0,none⟩=some kI) (cK:sH o4 w kI zs):SeqStopsK F n Tryz.prog 290 #[.pointer (some ⟨hu,0,none⟩)] (fun x:Int=>#[Value.int .i64 x]) (Below o4) (fun aS=>aS=zs) (fun pre=>pre<+:zs) zs.length w:=fun l c2 Ij W lv _ _ Pq aU=>by
 have qA:=(lv.cell (p:=⟨hu,0,none⟩) rR).trans hc;rcases cK.below (lv.mono alQ) with⟨a,cap,rfl,rfl⟩|⟨b,off,cap,rfl,aa,rW⟩
 ·exact(auZ F n eO jd l hu a cap c2 W qA aU).mono fun e f8 ⟨aE,al⟩=>⟨aE,.inl ⟨_,rfl,al⟩⟩
 ·refine(auY F n eO jd ag l hu o4 b off zs.length cap zs vd aa c2 Ij Pq W qA rW aU).mono ?_;rintro e f8 ⟨aE,⟨aS,rfl,al⟩|⟨pre,⟨k,ac,rfl⟩,al⟩⟩
  ·exact⟨aE,.inl ⟨_,auO zs,al⟩⟩
  ·exact⟨aE,.inr ⟨_,by rw[auQ zs ac];exact List.take_prefix _ _,al⟩⟩
theorem amT:(Tryz.prog.info? 3).map (fun i=>(i.zero,i.size,i.bytes))=some (some (.int .i64 0),1,8):=by kernel_rfl
set_option maxRecDepth 100000 in
set_option maxHeartbeats 2000000 in
theorem agr (F:Fence) (n:Nat) (ae:F.fn 299) (aX:F.fn 290) (jd:F.round=none) (ag:3<=n) (hu:Nat) (kI:Value) (zs:List Int) (vd:zs.length*8<=140737488351232) (w:World) (rR:hu<w.heap.size) (hc:w.cell? ⟨hu,0,none⟩=some kI) (cK:sH w.heap.size w kI zs):CallsIn F n Tryz.prog 299 #[.slice none 0 0,.func (.func 290) #[] #[.pointer (some ⟨hu,0,none⟩)]] w fun e f8=>∃v,e=.returned v/\f8.ownsRow w.heap.size 3 1 v zs.length (zs.map (Value.int .i64))/\(v=.slice none 0 0↔zs=[])/\Below w.heap.size w f8:=by
 have J:1<=n:=(by omega);obtain⟨i0,hi,amJ,Ge,Qk⟩:=info_parts amT;refine callsIn_of_wp_marks Tryz.func299 rfl ae ?_ jd;simp only[Tryz.ntmps299,wF,kc,us,Nat.reduceAdd,Nat.reduceSub,Br,Bs,BD,Bz,hj,mz]
 gi_wp2
 have NK:=Boxed.new w 23 (.slice none 0 0);have ns:Below w.heap.size w (w.alloc (.cells #[.slice none 0 0] 23)):=(Below.refl _ w).alloc (bS _) _;refine wpIn_rangeFunc_ownG jd J (gf:=290) (lb:=#[.pointer (some ⟨hu,0,none⟩)]) rfl aX (enters_of Tryz.func290 (by kernel_rfl) rfl) (au1 F (n-1) aX jd (by omega) hu w.heap.size kI zs vd _ (by simp;omega) (by simp) ((ns.cell (p:=⟨hu,0,none⟩) rR).trans hc) (cK.below ns)) belowK_t (belowK_b (by simp)) (Below.refl _ _) (fun _=>rfl) (fun pre W=>(∃v,Boxed W w.heap.size 23 v/\W.ownsRow w.heap.size 3 1 v pre.length (pre.map (Value.int .i64))/\(v=.slice none 0 0↔pre=[]))/\Below w.heap.size w W) (fun _ _ _=>False) (OwnFrom.and (Own.from (holdsRow_own w.heap.size w.heap.size 23 3 1 (fun pre=>pre.length) (fun pre=>pre.map (Value.int .i64)) (fun pre v=>v=.slice none 0 0↔pre=[])) _) (ownFrom_below (bS _) (by simp))) (fun _ _ _ _ _ hs _ _=>hs) ⟨⟨_,NK,World.ownsRow_nil _ _ _ _,by simp⟩,ns⟩ (fun x=>{tmps:=#[.slice none 0 0,.func (.func 290) #[] #[.pointer (some ⟨hu,0,none⟩)],.pointer (some ⟨w.heap.size,0,none⟩),undef,.slice none 0 0,.int .i64 x,.func (.func 290) #[] #[.pointer (some ⟨hu,0,none⟩)],.int .i64 x,undef,undef,undef,undef,undef],defers:=[]}) ?assign ?body ?done ?stop
 case assign=>
  intro l x W K cn
  gi_wp2
  exact cn
 case body=>
  rintro l pre x W ⟨⟨v,hv,oa,pI⟩,eP⟩ cg;have hc:=hv.cell;have dR:zs.length<=maxLen:=(by simp only[maxLen];omega);have FL:zs.length*8<=140737488355328:=by omega
  gi_wp2_with (gi_at_builtin;refine wpListIn_append_own _ rfl _ _ 23 rfl w.heap.size 3 i0 (.int .i64 0) 1 8 Tryz.underlying23 hi amJ Ge Qk rfl (by decide) _ _ _ rfl (oa.alloc _) ⟨W.heap.size,0,none⟩ 1 1 [.int .i64 x] rfl rfl (cell_one_new _ _ _) (by simp[Value.oneCell']) (by omega) (by omega) (by have:=eP.size;simp;omega) ?_;intro ed ys Xh alj _;obtain⟨ej,fy,rfl⟩:=ownsRow_succ Xh;obtain⟨Lp,lA,e2,ga,j0⟩:=hv.appended (by decide) oa eP.size (bS _) Xh alj;have awp:=Lp.cell;have j1:=Lp.frozen)
  exact⟨ga.from _,j0,⟨_,lA,by simpa using e2,by simp⟩,eP.trans j0⟩
 case done=>
  rintro D aS W rS rfl ⟨⟨v,hv,oa,pI⟩,eP⟩ cn;have hc:=hv.cell
  gi_wp2
  refine⟨by simp,.inl ⟨_,_,rfl,run_takeDeferred cn,?_⟩⟩;exact⟨_,results_tmp rfl _ _ _,v,rfl,ownsRow_putObj oa _ cn rfl,pI,eP.trans (belowK_b (w:=w) (bS _) W D _ _ (by simp at rS;omega) cn rfl rfl)⟩
 case stop=>
  rintro D c pre W _ _ h _;exact h.elim
set_option maxHeartbeats 1000000 in
theorem ahB (F:Fence) (n:Nat) (s8:F.fn 288) (ae:F.fn 299) (aX:F.fn 290) (jd:F.round=none) (ag:4<=n) (hu:Nat) (kI:Value) (zs:List Int) (vd:zs.length*8<=140737488351232) (w:World) (rR:hu<w.heap.size) (hc:w.cell? ⟨hu,0,none⟩=some kI) (cK:sH w.heap.size w kI zs):CallsIn F n Tryz.prog 288 #[.func (.func 290) #[] #[.pointer (some ⟨hu,0,none⟩)]] w fun e f8=>∃v,e=.returned v/\f8.ownsRow w.heap.size 3 1 v zs.length (zs.map (Value.int .i64))/\(v=.slice none 0 0↔zs=[])/\Below w.heap.size w f8:=by
 have J:1<=n:=(by omega);refine callsIn_of_wp Tryz.func288 rfl s8 ?_ jd;simp only[Tryz.ntmps288,wF,kc,us,Nat.reduceAdd,Nat.reduceSub,Br,Bs,BD,Bz,hj,mz]
 gi_wp2_with (gi_at_call 299;refine(agr F (n-1) ae aX jd (by omega) hu kI zs vd _ rR hc cK).mono ?_;rintro e w' ⟨v,rfl,oa,pI,aa⟩)
 go_ret
 exact⟨v,rfl,oa,pI,aa⟩
open Go.lP
theorem asW {M:du->Nat->Prop} {w:World} {base:Nat} {v:Value} {zs:List Int} (h:w.ownsRow base 3 1 v zs.length (zs.map (Value.int .i64))):∃f,bi M w (.osl (.int .i64)) [v] zs f/\f.Nodup/\∀b∈f,base<=b/\b<w.heap.size:=by
 rcases h.2 with⟨rfl,aU⟩|⟨g,cap,Ob,rfl,aa,aD,J,R,ae,aI⟩
 ·obtain rfl:=pb aU;exact⟨[],⟨none,0,rfl,.inl ⟨rfl,rfl,rfl,rfl⟩⟩,by simp,by simp⟩
 ·rw[Nat.mul_one] at ae aI;have oT:∀j,j<cap->w.cell? ⟨g,j,none⟩=some (Ob[j]?.getD undef)/\w.frozen? ⟨g,j,none⟩=false:=fun j al=>by
   constructor<;>simp[World.cell?,World.frozen?,aD,show j<Ob.size by omega]
  refine⟨[g],⟨some ⟨g,0,none⟩,cap,rfl,.inr ⟨g,0,List.replicate zs.length [],rfl,by simp,by simp,J,fun j _ al=>?_,fun i x f ab aF=>?_⟩⟩,by simp,fun b cM=>?_⟩
  ·obtain⟨aK,aL⟩:=oT j (by simpa[aq.size] using al);exact⟨by rw[aK];rfl,aL⟩
  ·have hi:i<zs.length:=(e9.1 ab).1;obtain rfl:f=[]:=by
    rw[pc] at aF;split at aF<;>simp_all
   refine⟨[.int .i64 x],rfl,fun j v al=>?_,rfl,rfl⟩;cases j with
   |succ j=>simp at al
   |zero=>
    simp only[ld,cI] at al;subst al;simp only[aq.size,Nat.mul_one,ks,pg];rw[(oT i (by omega)).1];have:(Ob.toList.take zs.length)[i]?=(zs.map (Value.int .i64))[i]?:=(by rw[aI]);rw[oG hi,Bq,f5,ab] at this;rw[this];rfl
  ·simp only[fv] at cM;subst cM;exact⟨aa,(qa.1 aD).1⟩
theorem alT {M:du->Nat->Prop} {w:World} {v:Value} {zs:List Int} {f:List Nat} (h:bi M w (.osl (.int .i64)) [v] zs f):(∃a cap,v=.slice a 0 cap/\zs=[])\/∃b o cap,v=.slice (some ⟨b,o,none⟩) zs.length cap/\zs.length<=cap/\Holds (Value.int .i64) w b o zs.toArray/\f=[b]:=by
 obtain⟨a,cap,hv,h⟩:=h;simp only[hh,and_true] at hv;subst hv;rcases h with⟨rfl,rfl,rfl,rfl⟩|⟨b,o,dI,rfl,rfl,J,R,ae,aI⟩
 ·exact .inl ⟨none,0,rfl,rfl⟩
 ·right;have nx:dI.flatten=[]:=by
   rw[List.flatten_eq_nil_iff];intro l ah;obtain⟨i,hi,rfl⟩:=jk.1 ah;obtain⟨ds,_,_,hr⟩:=aI i (zs[i]'(by omega)) dI[i] (by simp) (by simp)
   exact hr.1
  refine⟨b,o,cap,rfl,R,fun j al=>?_,by rw[nx]⟩;have ny:j<zs.length:=(by simpa using al);obtain⟨ds,cJ,cz,_,cX⟩:=aI j zs[j] (dI[j]'(by omega)) (by simp) (by simp)
  subst cX;have aK:=cz 0 _ rfl;simp only[aq.size,Nat.mul_one,pg] at aK;exact⟨by rw[aK];simp[ny],(ae (o+j) (by omega) (by simp only[aq.size];omega)).2⟩
def Nr (E:eI) (sort:List Int->Option (List Int)):Prop:=∀zs aS,sort zs=some aS->wv E 289 [.m ⟨.osl (.int .i64),zs⟩ aS] []
set_option maxRecDepth 100000 in
set_option maxHeartbeats 2000000 in
theorem atZ (F:Fence) (fQ:∀f,F.fn f) (jd:F.round=none) (zY:∀(m:Nat) (f:FuncId) (args:Array Value) (w:World) (b8:Ending->World->Prop),Calls Tryz.prog f args w b8->CallsIn F m Tryz.prog f args w b8) {E:eI} (hn:E.P=Tryz.prog) {sort:List Int->Option (List Int)} (hs:Nr E sort) (n:Nat) (ag:5<=n) (hu:Nat) (kI:Value) (zs aS:List Int) (gE:sort zs=some aS) (vd:zs.length*8<=140737488351232) (w:World) (nt:mu E (fun b=>b<w.heap.size) w) (rR:hu<w.heap.size) (hc:w.cell? ⟨hu,0,none⟩=some kI) (cK:sH w.heap.size w kI zs):CallsIn F n Tryz.prog 276 #[.func (.func 290) #[] #[.pointer (some ⟨hu,0,none⟩)]] w fun e f8=>∃v f M,e=.returned v/\bi M f8 (.osl (.int .i64)) [v] aS f/\(∀b∈f,w.heap.size<=b)/\Below w.heap.size w f8:=by
 have J:1<=n:=(by omega);have pK:=fQ 288;have hP:=fQ 289;refine callsIn_of_wp Tryz.func276 rfl (fQ _) ?_ jd;simp only[Tryz.ntmps276,wF,kc,us,Nat.reduceAdd,Nat.reduceSub,Br,Bs,BD,Bz,hj,mz]
 gi_wp2_with (first
  |(
   gi_at_call 288;refine(ahB F (n-1) (fQ _) (fQ _) (fQ _) jd (by omega) hu kI zs vd _ rR hc cK).mono ?_;rintro e W ⟨v,rfl,oa,pI,aa⟩
   obtain⟨f,hr,eh,aF⟩:=asW (M:=bK (fun _=>False) (fun _=>False)) oa;have oS:=hs zs aS gE W (fun b=>b<w.heap.size) (fun _=>False) [v] [f] (fun b h=>by rcases h with h|h;exact jn h aa.size;exact h.elim) ⟨⟨[v],rfl,hr⟩,trivial⟩ (by simpa using eh) (fun b aa=>⟨Nat.not_lt.2 (aF b (by simpa using aa)).1,fun h=>h,(aF b (by simpa using aa)).2⟩) True.intro (nt.mono (fun _ h=>h) fun b h=>aa.block b h);rw[hn] at oS;have oS:=zY (n-1) _ _ _ _ oS;clear oa pI)
  |(gi_at_call 289;refine oS.mono ?_;rintro e af3 ⟨I',gs,hD,eV,rfl,ay⟩))
 have aD:∃g,gs=[g]:=by
  have:=ay.args
  match gs,this with
  |[g],_=>exact⟨g,rfl⟩
  |[],h=>exact h.elim
  |_::_::_,h=>exact h.2.elim
 obtain⟨g,rfl⟩:=aD;obtain⟨cs,aC,e2⟩:=ay.args.1;have u7:=e2.len;obtain⟨c,rfl⟩:=BB.1 u7;have aC:v=c:=aC;subst aC;have F5:eV=[]:=by
  have:=ay.res
  match eV,this with
  |[],_=>rfl
  |_::_,h=>exact h.elim
 subst F5
 go_ret
 refine⟨v,g,_,rfl,e2,fun b cM=>?_,?_⟩
 ·have:=(ay.UI b (by simp[cM])).2.2.2;rcases this with h|h
  ·exact eu aa.size h
  ·exact(aF b (by simpa using h)).1
 ·exact⟨ay.os.trans aa.os,ay.tape.trans aa.tape,ay.output.trans aa.output,eu aa.size ay.size,fun k ac=>(ay.heap k (jn ac aa.size) (fun h=>by have:=(aF k (by simpa using h)).1;omega)).trans (aa.block k ac)⟩
theorem ahG {M:du->Nat->Prop} {W:World} {B:Nat} {v:Value} {aS:List Int} {f:List Nat} (hr:bi M W (.osl (.int .i64)) [v] aS f) (aF:∀b∈f,B<=b) (ah:aS.length<=1000000):Calls Tryz.prog 275 #[v] W (fun e w'=>∃a cap,e=.returned (.slice a (Lib.compact aS).length cap)/\Below B W w'):=by
 rcases alT hr with⟨a,cap,rfl,rfl⟩|⟨b,o,cap,rfl,rV,akn,rfl⟩
 ·refine(Any.slices_Compact_int_empty Tryz.Yo a cap W).mono ?_;rintro e w' ⟨rfl,rfl⟩;exact⟨a,cap,rfl,Below.refl _ _⟩
 ·refine(Any.slices_Compact_int Tryz.Yo b o cap aS W akn (by omega) rV).mono ?_;rintro e w' ⟨rfl,q,rfl⟩;refine⟨_,cap,rfl,rfl,rfl,rfl,by simp[putRow,mapBlock,Sort.ahead],fun k ac=>?_⟩;have:=aF b (by simp);simp[putRow,mapBlock,Sort.ahead,wu,show b≠k by omega]
set_option maxRecDepth 100000 in
set_option maxHeartbeats 2000000 in
theorem auB (F:Fence) (fQ:∀f,F.fn f) (jd:F.round=none) (zY:∀(m:Nat) (f:FuncId) (args:Array Value) (w:World) (b8:Ending->World->Prop),Calls Tryz.prog f args w b8->CallsIn F m Tryz.prog f args w b8) {E:eI} (hn:E.P=Tryz.prog) {sort:List Int->Option (List Int)} (hs:Nr E sort) (n:Nat) (ag:7<=n) (a:Option Addr) (len cap:Nat) (zs aS:List Int) (gE:sort zs=some aS) (dR:zs.length=len) (vd:zs.length<=1000000) (aB:aS.length<=1000000) (w:World) (nt:mu E (fun b=>b<w.heap.size) w) (cK:sH w.heap.size w (.slice a len cap) zs):CallsIn F n Tryz.prog 249 #[.slice a len cap] w fun e f8=>e=.returned (.bool (decide ((Lib.compact aS).length<zs.length)))/\Below w.heap.size w f8:=by
 have J:1<=n:=(by omega);have pK:=fQ 277;have hP:=fQ 276;have awJ:=fQ 275;generalize mP:(Lib.compact aS).length=av8;refine callsIn_of_wp Tryz.func249 rfl (fQ _) ?_ jd;simp only[Tryz.ntmps249,wF,kc,us,Nat.reduceAdd,Nat.reduceSub,Br,Bs,BD,Bz,hj,mz];have NK:=Boxed.new w 23 (.slice a len cap);have ns:Below w.heap.size w (w.alloc (.cells #[.slice a len cap] 23)):=(Below.refl _ w).alloc (bS _) _;have akp:sH (w.alloc (.cells #[.slice a len cap] 23)).heap.size (w.alloc (.cells #[.slice a len cap] 23)) (.slice a len cap) zs:=by
  rcases cK.below ns with h|⟨b,off,fy,e,aa,hc⟩
  ·exact .inl h
  ·exact .inr ⟨b,off,fy,e,by simp;omega,hc⟩
 have Xt:=atZ F fQ jd zY hn hs (n-1) (by omega) w.heap.size (.slice a len cap) zs aS gE (by omega) _ (nt.mono (fun b (h:b<w.heap.size)=>jn h ns.size) fun b h=>ns.block b h) (by simp) NK.cell akp
 gi_wp2_with (first
  |(gi_at_call 277;refine(au0 F (n-1) (fQ _) jd a len cap w).mono ?_;rintro e w' ⟨rfl,rfl⟩)
  |(gi_at_call 276;refine Xt.mono ?_;rintro e W ⟨v,f,M,rfl,hr,aF,aa⟩;have WO:=zY (n-1) _ _ _ _ (ahG (B:=w.heap.size) hr (fun b cM=>by have:=aF b cM;simp at this;omega) aB);rw[mP] at WO;have X:Below w.heap.size w W:=ns.trans (aa.mono (by simp));clear hr aF aa Xt)
  |(gi_at_call 275;refine WO.mono ?_;rintro e af3 ⟨dv,NV,rfl,j0⟩))
 go_ret
 exact⟨by rw[dR];rfl,X.trans j0⟩
def auy (sort:List Int->Option (List Int)):bg:=⟨249,[.v (.bJ .ey (.int .i64))],[.bool],fun a=>(HL sort a.1).map fun b=>(b,())⟩
theorem auz {E:eI} (hn:E.P=Tryz.prog) {sort:List Int->Option (List Int)} (hs:Nr E sort):be E (auy sort):=by
 refine⟨fun vs w=>by rw[hn];exact Tryz.call249 vs w,?_⟩;rintro⟨zs,_⟩ b aa;have j0:(HL sort zs).map (fun b=>(b,()))=some b:=aa;obtain⟨sX,nw,rfl⟩:=eM.1 j0;clear aa j0;unfold HL at nw;cases J:Nat.ble zs.length 1000000 with
 |false=>rw[J] at nw;cases nw
 |true=>
 rw[J] at nw;obtain⟨aS,gE,nw⟩:=dk.1 nw;cases R:Nat.ble aS.length 1000000 with
 |false=>rw[R] at nw;cases nw
 |true=>
 rw[R] at nw;have aa:decide ((Lib.compact aS).length<zs.length)=sX:=ff nw;subst aa;have J:=fw J;have R:=fw R;rintro w I B vs fs Wr qy eh Cy _hself;have qy:nV (DT I B w) [.v ⟨.bJ .ey (.int .i64),zs⟩] vs fs:=qy;obtain⟨v,f,rfl,rfl⟩:∃v f,vs=[v]/\fs=[f]:=by
  cases vs with
  |nil=>exact qy.elim
  |cons v vs=>
   cases fs with
   |nil=>exact qy.elim
   |cons f fs=>
    have h:=qy.2;cases vs with
    |nil=>cases fs with
     |nil=>exact⟨v,f,rfl,rfl⟩
     |cons=>exact h.elim
    |cons=>exact h.elim
 obtain⟨⟨rfl,cs,rfl,hr⟩,_⟩:=qy;obtain⟨_,a,cap,rfl,rV,pI,mQ⟩:=hr;have cK:sH w.heap.size w (.slice a zs.length cap) zs:=by
  rcases mQ with h|⟨b,o,rfl,bC,ab⟩
  ·exact .inl ⟨a,cap,by rw[show zs=[] from h];rfl,h⟩
  ·refine .inr ⟨b,o,cap,rfl,Wr b bC,fun j al=>?_⟩;obtain⟨ds,cJ,cz,_,cX⟩:=ab j zs[j] (by simp[al]);subst cX;have q:=cz 0 _ rfl;simp only[aq.size,Nat.mul_one,pg] at q;rw[q];simp[al]
 intro nt;have h:=auB Fence.wide (fun _=>trivial) rfl (fun m f args w b8 h=>(callsIn_wide (n:=m)).2 h) hn hs 10 (by omega) a zs.length cap zs aS gE rfl J R w (nt.mono (fun b h=>Wr b (.inl h)) fun _ _=>rfl) cK;have h:=callsIn_wide.1 h;show Calls E.P 249 #[.slice a zs.length cap] w _;rw[hn];refine h.mono ?_;rintro e w' ⟨rfl,aa⟩;refine⟨I,[[]],[[]],[.bool _],rfl,⟨⟨rfl,trivial⟩,⟨⟨[.bool _],rfl,rfl,rfl⟩,trivial⟩,by simp,by simp,fun _ h=>h,fun _ h=>.inl h,aa.size,aa.os,aa.tape,aa.output,fun b cM=>.of_heap (aa.block b cM),fun b cM _=>aa.block b cM⟩⟩
end TR
end Go.Proofs
end
namespace Go.lP
section
open Go.Proofs
abbrev eR:aq:=(.int .u32)
abbrev d5:aq:=(.bJ .cD eR)
abbrev b1:aq:=(.st (.pr .bool (.pr d5 .nil)))
abbrev aO:aq:=(.int .i64)
abbrev cG:aq:=(.st (.pr .bool (.pr b1 (.pr aO .nil))))
abbrev dC:aq:=(.osl aO)
abbrev cx:aq:=(.int .u64)
abbrev TS:aq:=(.pr dC (.pr dC (.pr (.osl cx) .nil)))
abbrev hk:aq:=(.bJ .ey aO)
abbrev oL:aq:=(.bJ .ey cx)
abbrev af2:aq:=(.pr hk (.pr hk (.pr oL .nil)))
abbrev hy:aq:=(.bJ .cD aO)
abbrev TU:aq:=(.pr hy (.pr hy (.pr (.bJ .cD cx) .nil)))
abbrev sS:aq:=(.osl cG)
abbrev TV:aq:=(.osl (.osl cx))
abbrev rn:aq:=(.optr (.st (.pr (.bJ .cD hy) (.pr TV (.pr (.osl (.mp cG)) (.pr (.osl dC) .nil))))))
abbrev Iw:aq:=(.st (.pr aO (.pr aO (.pr (.bJ .cD cG) .nil))))
abbrev ni:aq:=(.st (.pr aO (.pr aO (.pr cx .nil))))
abbrev lS:aq:=(.st (.pr aO (.pr aO TS)))
abbrev ef:aq:=(.optr lS)
abbrev g8:aq:=(.st (.pr (.bJ .cD hy) .nil))
abbrev mE:aq:=(.st (.pr (.bJ .ey hk) .nil))
abbrev kv:aq:=(.st (.pr aO (.pr aO af2)))
abbrev BI:aq:=(.st (.pr hy TU))
abbrev jr:aq:=(.osl .bool)
abbrev hx:aq:=(.osl jr)
abbrev nj:aq:=(.st (.pr aO (.pr aO TU)))
abbrev kf:aq:=(.st (.pr (.osl hy) .nil))
abbrev dm:aq:=(.osl eR)
abbrev oK:aq:=(.st (.pr .bool (.pr b1 (.pr aO (.pr .bool .nil)))))
abbrev Ei:aq:=(.st (.pr dC TS))
abbrev Ix:aq:=(.optr Ei)
abbrev jq:aq:=(.optr cG)
abbrev TT:aq:=(.st (.pr aO (.pr aO (.pr (.bJ .cD cx) .nil))))
abbrev hl:aq:=(.ptr .cD b1)
abbrev d6:aq:=(.optr b1)
abbrev qm:aq:=(.optr (.st (.pr dC (.pr dC .nil))))
abbrev yW:aq:=(.optr (.st (.pr aO (.pr g8 (.pr (.osl (.mp cG)) .nil)))))
abbrev pi:aq:=(.ptr .cD kv)
abbrev fg:aq:=(.osl ni)
abbrev yX:aq:=(.ptr .cD cG)
abbrev Iy:aq:=(.ptr .ey (.st (.pr aO (.pr mE (.pr (.bJ .ey (.ee .ey cG)) .nil)))))
abbrev wK:aq:=(.optr (.st (.pr hx (.pr jr .nil))))
abbrev lT:aq:=(.ptr .cD mE)
abbrev Iz:aq:=(.optr BI)
def tt:List (Nat×aq):=[(3,aO),(4,.bool),(5,(.int .u8)),(9,.str),(22,(.bJ .cD cx)),(23,hy),(25,(.bJ .cD cx)),(27,nj),(31,BI),(39,(.bJ .cD hy)),(41,g8),(50,cx),(51,cx),(55,d5),(57,b1),(59,cG),(62,(.bJ .cD cG)),(71,TT),(75,Iw),(84,(.bJ .cD (.st (.pr aO (.pr aO (.pr hy (.pr aO .nil))))))),(90,(.st (.pr aO (.pr aO (.pr hy (.pr aO .nil)))))),(102,(.bJ .cD (.ee .cD cG))),(104,(.st (.pr aO (.pr g8 (.pr (.bJ .cD (.ee .cD cG)) .nil))))),(109,(.bJ .cD (.bJ .cD cx))),(117,(.bJ .cD ni)),(120,ni),(122,(.bJ .cD (.bJ .cD .bool))),(124,(.bJ .cD .bool)),(132,cx),(139,eR),(149,(.bJ .cD (.bJ .cD cG))),(155,(.bJ .cD (.bJ .cD (.st (.pr aO (.pr aO (.pr hy (.pr aO .nil)))))))),(156,(.bJ .cD (.bJ .cD Iw))),(158,(.bJ .cD Iw)),(166,(.ee .cD cG)),(168,(.st (.pr (.bJ .cD hy) (.pr (.bJ .cD (.bJ .cD cx)) (.pr (.bJ .cD (.ee .cD cG)) (.pr (.bJ .cD hy) .nil)))))),(175,(.st (.pr (.bJ .cD (.bJ .cD .bool)) (.pr (.bJ .cD .bool) .nil)))),(206,(.st (.pr Iw (.pr TT (.pr (.bJ .cD cG) .nil))))),(212,(.bJ .cD (.bJ .cD .bool))),(223,oK),(254,(.st (.pr hy (.pr hy .nil)))),(306,cx)]
theorem abK:∀T τ,az tt T=some τ->ei Tryz.prog τ T:=abL (by kernel_rfl)
def E:eI:={P:=Tryz.prog,tt:=tt,ok:=abK,mix:=by kernel_rfl,glob:=[⟨0,266,.u8,sY⟩],gok:=aj8 abK (S:=5) (by kernel_rfl) (by kernel_rfl)}
def adf:bg:=⟨155,[.v d5],[dm],s0⟩
theorem Hc:be E adf:=
 .q bq (.k [0] (.n (.n (.t .none (.o (.p ⟨[(3,.v aO)],[]⟩ (.x 0 ⟨[(3,.v aO)],[]⟩) (.t (.cW [3] ⟨[],[]⟩) .l .l))) (.n (.t .none (.n (.o (.k [3] (.p ⟨[(4,.s (.ref 4 [])),(5,.v aO)],[(4,dm)]⟩ (.x 2 ⟨[(4,.s (.ref 4 []))],[(4,dm)]⟩) .l)))) .l)))))) Tryz.func155 Tryz.call155 [(4,dm)]
def ade:bg:=⟨153,[.v .bool,.v d5],[b1],pv⟩
theorem Dl:be E ade:=
 .q (aM Hc bq) (.k [0] .l) Tryz.func153 Tryz.call153 [(4,b1),(1,d5)] [(1,6)]
def adn:bg:=⟨162,[.v aO],[b1],Ca⟩
theorem Rz:be E adn:=
 .q (aM Dl bq) (.k [0] (.n (.n (.t (.x [] ⟨[(2,.s (.ref 2 [])),(3,.v cx)],[(2,d6)]⟩) .l .l)))) Tryz.func162 Tryz.call162 [(2,b1)] [(21,20)]
def ac9:bg:=⟨149,[.v b1],[b1],w2⟩
theorem Ma:be E ac9:=
 .q (aM Dl bq) (.k [0] .l) Tryz.func149 Tryz.call149 [(1,hl),(2,b1)]
def afx:bg:=⟨87,[],[cG],Cb⟩
theorem Mf:be E afx:=
 .q bq .l Tryz.func87 Tryz.call87 [(0,cG)]
def Aq (x:Int):gS:=⟨E.tt,[],[],14,[0]++(kQ 0 [.v eR]++qX (kH 0 [.v eR])),[(0,.val eR x)]++[],[],kH 0 [.v eR],[],[],E.glob⟩
noncomputable def xG:Code:=Tryz.f222.body.getD .skip
def Ar:Array Oper:=(AU 3 xG).getD #[]
def QK:oC:=.two .none (.leaf) (.two .none (.two .none (.leaf) (.leaf)) (.leaf))
def LN:oC:=.keep [0] (.two .none (.leaf) (.two .none QK (.two .none (.leaf) (.leaf))))
def C1 (x:Int):ba:=⟨[(4,.val .bool (x==0)),(3,.val eR x),(2,.val aO 0),(0,.val eR x)],[]⟩
def QJ (x:Int):Exit->ba->Option (jA [.v eR] (nE [.int .i64])):=VX E.tt [.v eR] [.tmp 2] [.int .i64] (x,())
theorem anm:xG=.seq (MN xG) (.seq (MN (abe xG)) (.seq (.region 3 Ar false) .ret)):=by kernel_rfl
theorem anp:Ar.size=10:=by kernel_rfl
theorem ann {aR:Type} (x:Int) (wB:Exit->ba->Option aR) (G:ba->Option aR):h7 (Aq x) .leaf (MN xG) ⟨[(0,.val eR x)],[]⟩ aR (HA (fun s=>h7 (Aq x) QK (MN (abe xG)) s aR (HA G wB)) wB)=bif x==0 then wB .ret ⟨(2,.val aO 32)::(C1 x).g,[]⟩ else G (C1 x):=by kernel_rfl
theorem anj {aR:Type} (x:Int) (K:ba->Option aR):l9 (Aq x) Ar [0,1,2,3,4] (C1 x) K=K ⟨(9,.val eR (IntKind.u32.wrap (eg IntKind.u32 x (IntKind.u32.wrap (0-x))*125613361)))::(8,.val eR (eg IntKind.u32 x (IntKind.u32.wrap (0-x))))::(7,.val eR (IntKind.u32.wrap (0-x)))::(6,.val eR x)::(5,.val eR x)::(C1 x).g,[]⟩:=by kernel_rfl
theorem ank (x p q z:Int):l9 (Aq x) Ar [5,6,7,8,9] ⟨(9,.val eR z)::(8,.val eR p)::(7,.val eR q)::(6,.val eR x)::(5,.val eR x)::(C1 x).g,[]⟩ (QJ x .ret)=(ec IntKind.u32 z 27).bind fun dL=>(bb sY dL).bind fun gk=>some (IntKind.i64.wrap gk,()):=by kernel_rfl
theorem anq (x:Int):QJ x .ret ⟨(2,.val aO 32)::(C1 x).g,[]⟩=some ((32:Int),()):=by kernel_rfl
theorem ano {aR:Type} (x:Int) (a:hb [.v eR]) (C D:Code) (wB:Exit->ba->Option aR) (aG:a=(x,())):h7 ⟨E.tt,[],[],14,kQ 0 [.v eR]++qX (kH 0 [.v eR]),[],[],kH 0 [.v eR],[],[],E.glob⟩ LN (.seq C (.seq D (.seq (.region 3 Ar false) .ret))) ⟨po 0 [.v eR] a,pp 0 [.v eR] a⟩ aR wB=h7 (Aq x) .leaf C ⟨[(0,.val eR x)],[]⟩ aR (HA (fun s=>h7 (Aq x) QK D s aR (HA (fun s=>l9 (Aq x) Ar (List.range Ar.size) s (wB .ret)) wB)) wB):=by subst aG;rfl
theorem anl (a:hb [.v eR]):Lw ⟨E.tt,[],[],14,kQ 0 [.v eR]++qX (kH 0 [.v eR]),[],[],kH 0 [.v eR],[],[],E.glob⟩ LN xG [.v eR] [.tmp 2] [.int .i64] a=B7 a:=by obtain⟨x,⟨⟩⟩:=a;show h7 _ LN xG _ _ (QJ x)=_;rw[anm,ano x _ _ _ _ rfl,ann,anp,show List.range 10=[0,1,2,3,4]++[5,6,7,8,9] from rfl,Qm,anj,ank,anq];exact Eq.refl (bif x==(0:Int) then some ((32:Int),()) else(ec IntKind.u32 (IntKind.u32.wrap (eg IntKind.u32 x (IntKind.u32.wrap (0-x))*125613361)) 27).bind fun dL=>(bb sY dL).bind fun gk=>some (IntKind.i64.wrap gk,()))
def ad6:bg:=⟨222,[.v eR],[aO],B7⟩
theorem ZL:be E ad6:=
 be.of (fn:=Tryz.f222) (rs:=[.tmp 2]) [] [] [] LN Tryz.func222 (by kernel_rfl) (by kernel_rfl) (by kernel_rfl) Tryz.call222 abB (by intro a;exact anl a)
def ada:bg:=⟨150,[.v b1],[aO],uL⟩
theorem Zu:be E ada:=
 .q (aM ZL (aM Hc bq)) (.k [0] (.n (.n (.t .none (.n (.o (.k [3] (.p ⟨[(4,.v aO)],[]⟩ (.cW 0 ⟨[],[]⟩) .l)))) .l)))) Tryz.func150 Tryz.call150 [(1,hl),(3,d5)] [(3,7)]
def afF:bg:=⟨96,[.v b1],[b1],B9⟩
theorem RN:be E afF:=
 .q (aM Dl bq) (.k [0] .l) Tryz.func96 Tryz.call96 [(1,hl),(2,b1)]
def adj:bg:=⟨159,[.v d5,.v aO],[dm],J2⟩
theorem ap4:be E adj:=
 .q bq (.k [0,1] (.n (.n (.n (.t .none (.n (.o (.p ⟨[(5,.s (.ref 5 [])),(6,.v cx),(7,.v aO)],[(5,dm)]⟩ (.x 0 ⟨[(5,.s (.ref 5 [])),(6,.v cx)],[(5,dm)]⟩) .l))) .l))))) Tryz.func159 Tryz.call159 [(10,dm)]
def adl:bg:=⟨160,[.v d5,.v aO],[dm,.bool],E2⟩
theorem Zx:be E adl:=
 .q bq (.k [0,1] (.n (.n (.t .none (.n (.o (.p ⟨[(6,.v .bool),(7,.v aO)],[]⟩ (.x 0 ⟨[(6,.v .bool)],[]⟩) (.t (.cW [6,7] ⟨[],[]⟩) .l (.t (.x [7] ⟨[(6,.v .bool)],[]⟩) .l .l))))) (.n (.n (.t .none (.n (.o (.k [9] (.p ⟨[(6,.v .bool),(8,.s (.ref 8 [])),(10,.v aO)],[(8,dm)]⟩ (.x 2 ⟨[(6,.v .bool),(8,.s (.ref 8 []))],[(8,dm)]⟩) (.n (.t (.x [10] ⟨[(6,.v .bool),(8,.s (.ref 8 []))],[(8,dm)]⟩) (.o (.n (.t (.x [6] ⟨[(8,.s (.ref 8 [])),(11,.v cx)],[(8,dm)]⟩) .l (.t (.x [11] ⟨[(6,.v .bool),(8,.s (.ref 8 []))],[(8,dm)]⟩) .l .l)))) .l)))))) .l))))))) Tryz.func160 Tryz.call160 [(8,dm)]
def afB:bg:=⟨91,[.v b1],[b1],JY⟩
theorem ary:be E afB:=
 .q (aM Dl bq) (.k [0] .l) Tryz.func91 Tryz.call91 [(1,hl),(2,b1)]
def adg:bg:=⟨156,[.v d5,.v d5],[dm],J0⟩
theorem ap1:be E adg:=
 .q bq (.k [0,1] (.n (.n (.n (.t .none (.n (.o (.p ⟨[(5,.s (.ref 5 [])),(6,.v cx),(7,.v aO)],[(5,dm)]⟩ (.x 0 ⟨[(5,.s (.ref 5 [])),(6,.v cx)],[(5,dm)]⟩) (.n (.t (.x [7] ⟨[(5,.s (.ref 5 [])),(6,.v cx)],[(5,dm)]⟩) (.o (.t (.x [] ⟨[(5,.s (.ref 5 [])),(6,.v cx)],[(5,dm)]⟩) .l (.t (.x [] ⟨[(5,.s (.ref 5 [])),(6,.v cx)],[(5,dm)]⟩) .l .l))) .l))))) .l))))) Tryz.func156 Tryz.call156 [(5,dm)]
def adh:bg:=⟨157,[.v d5,.v d5],[aO],J1⟩
theorem ap2:be E adh:=
 .q bq (.k [0,1] (.n (.n (.t .none (.n (.o (.p ⟨[(5,.v aO)],[]⟩ (.cW 0 ⟨[],[]⟩) .l))) .l)))) Tryz.func157 Tryz.call157
def adi:bg:=⟨158,[.v d5,.v d5],[dm],E3⟩
theorem ap3:be E adi:=
 .q bq (.k [0,1] (.n (.n (.n (.t .none (.n (.o (.p ⟨[(5,.s (.ref 5 [])),(6,.v cx),(7,.v aO)],[(5,dm)]⟩ (.x 0 ⟨[(5,.s (.ref 5 []))],[(5,dm)]⟩) (.n (.t (.x [7] ⟨[(5,.s (.ref 5 [])),(6,.v cx)],[(5,dm)]⟩) (.o (.n (.t (.x [] ⟨[(5,.s (.ref 5 [])),(8,.v cx)],[(5,dm)]⟩) .l .l))) .l))))) .l))))) Tryz.func158 Tryz.call158 [(5,dm)]
def afD:bg:=⟨94,[.v b1,.v b1],[b1],zo⟩
theorem RL:be E afD:=
 .q (aM ap3 (aM ap2 (aM ap1 (aM Hc (aM Dl bq))))) (.k [0,1] (.n (.t .none (.d [(0,[],[]),(1,[],[]),(2,[1000009],[9]),(3,[],[]),(4,[],[]),(5,[1000012],[12]),(6,[1000009],[9,500009]),(7,[1000012],[12,500012])]) (.t .none (.n (.t .none (.t .none (.d [(0,[],[]),(1,[],[]),(2,[],[]),(3,[],[]),(4,[1000022],[22]),(5,[1000022],[22,500022]),(6,[1000004],[4])]) .l) .l)) (.t .none (.n (.t .none (.t .none (.d [(0,[],[]),(1,[],[]),(2,[],[]),(3,[],[]),(4,[1000032],[32]),(5,[1000032],[32,500032]),(6,[1000004],[4])]) .l) .l)) (.t .none (.d [(0,[],[]),(1,[],[]),(2,[],[]),(3,[],[]),(4,[1000038],[38]),(5,[1000038],[38,500038]),(6,[1000004],[4])]) .l)))))) Tryz.func94 Tryz.call94 [(2,hl),(3,hl),(4,b1),(5,d5),(6,d5)] [(5,9),(6,12),(23,22),(33,32),(39,38)]
def adm:bg:=⟨161,[.v b1,.v b1],[b1],JZ⟩
theorem ap6:be E adm:=
 .q (aM RL (aM ary bq)) (.k [0,1] (.n (.t .none (.d [(0,[],[]),(1,[],[]),(2,[],[]),(3,[],[]),(4,[1000004],[4])]) .l))) Tryz.func161 Tryz.call161 [(2,hl),(3,hl),(4,b1)]
def afE:bg:=⟨95,[.v b1,.v aO],[b1],rH⟩
theorem RM:be E afE:=
 .q (aM Rz (aM ap6 (aM Zx (aM ap4 (aM Dl (aM Ma bq)))))) (.k [0,1] (.n (.n (.t .none (.n (.t .none (.t .none (.d [(0,[1000002,2000002],[]),(1,[2000002],[]),(2,[1000002,4000002],[]),(3,[4000002],[]),(4,[],[]),(5,[1000017],[17]),(6,[1000017],[17,500017]),(7,[1000004],[4])]) .l) .l)) (.n (.n (.t (.x [] ⟨[(4,.s (.ref 4 [])),(7,.s (.ref 7 []))],[(4,d6),(7,d6)]⟩) (.t (.x [] ⟨[(4,.s (.ref 4 [])),(7,.s (.ref 7 [])),(35,.v .bool)],[(4,d6),(7,d6)]⟩) .l (.t .none (.d [(0,[1000007],[]),(1,[],[]),(2,[],[]),(3,[1000007],[7])]) .l)) .l))))))) Tryz.func95 Tryz.call95 [(4,b1),(5,d5),(7,b1)] [(5,25000),(18,17)]
def adb:bg:=⟨151,[.v b1,.v aO],[b1],Cd⟩
theorem Zv:be E adb:=
 .q (aM RM bq) (.k [0] (.n (.t .none (.o (.p ⟨[(1,.v aO),(2,.s (.ref 2 [])),(4,.s (.ref 4 []))],[(2,d6),(4,d6)]⟩ (.x 0 ⟨[(1,.v aO),(2,.s (.ref 2 [])),(4,.s (.ref 4 []))],[(2,d6),(4,d6)]⟩) .l)) .l))) Tryz.func151 Tryz.call151 [(4,b1)]
def ad7:bg:=⟨223,[.v eR],[aO],B6⟩
theorem RC:be E ad7:=
 .q bq (.n (.t (.x [] ⟨[(0,.v eR),(2,.v aO)],[]⟩) .l (.t (.x [] ⟨[(0,.v eR),(2,.v aO)],[]⟩) .l .l))) Tryz.func223 Tryz.call223
def adc:bg:=⟨152,[.v b1],[aO],E0⟩
theorem Zw:be E adc:=
 .q (aM RC (aM Hc bq)) (.k [0] .l) Tryz.func152 Tryz.call152 [(1,hl),(3,d5)] [(3,6)]
def afy:bg:=⟨88,[.v b1,.v aO],[cG],uM⟩
theorem Hg:be E afy:=
 .q (aM RN (aM Mf (aM Zw (aM Zv (aM Zu (aM Ma bq)))))) (.k [0,1] (.n (.n (.n (.n (.n (.n (.n (.n (.t (.cW [2,7] ⟨[(4,.s (.ref 4 [])),(5,.s (.ref 5 []))],[(4,jq),(5,d6)]⟩) (.t (.x [] ⟨[(4,.s (.ref 4 [])),(5,.s (.ref 5 [])),(36,.v .bool)],[(4,jq),(5,d6)]⟩) .l .l) .l)))))))))) Tryz.func88 Tryz.call88 [(2,hl),(4,cG),(5,b1)]
def acG:bg:=⟨119,[.v aO],[cG],E4⟩
theorem Zq:be E acG:=
 .q (aM Hg (aM Rz bq)) (.k [0] .l) Tryz.func119 Tryz.call119 [(2,cG)]
def afA:bg:=⟨90,[.v cG],[cG],Cc⟩
theorem RJ:be E afA:=
 .q (aM Hg (aM Mf bq)) (.k [0] .l) Tryz.func90 Tryz.call90 [(1,yX),(2,cG)]
def afC:bg:=⟨93,[.v b1],[aO],w3⟩
theorem RK:be E afC:=
 .q (aM Ma bq) (.k [0] .l) Tryz.func93 Tryz.call93
def adY:bg:=⟨214,[.v .bool,.v cx],[cx],uN⟩
theorem ZI:be E adY:=
 .q bq (.k [0,1] .l) Tryz.func214 Tryz.call214
def adV:bg:=⟨211,[.v .bool,.v aO],[cx],E6⟩
theorem aqr:be E adV:=
 .q (aM ZI bq) (.k [0,1] (.n (.t (.cW [] ⟨[],[]⟩) (.t (.x [] ⟨[(21,.v .bool)],[]⟩) .l .l) .l))) Tryz.func211 Tryz.call211
def aeA:bg:=⟨261,[.v b1,.v aO],[.bool],E1⟩
theorem aqQ:be E aeA:=
 .q (aM Zx (aM Hc bq)) (.k [0,1] .l) Tryz.func261 Tryz.call261 [(2,hl),(5,d5)] [(5,13000),(12,10)]
def aeB:bg:=⟨262,[.v .bool,.v aO,.v .bool,.v aO],[.bool],J6⟩
theorem aqR:be E aeB:=
 .q bq (.k [0,1,2,3] .l) Tryz.func262 Tryz.call262
def adW:bg:=⟨212,[.v .bool,.v b1,.v aO,.v .bool,.v aO],[b1],J4⟩
theorem aqs:be E adW:=
 .q (aM RL (aM RK (aM aqR (aM aqQ (aM Rz (aM Zv (aM Zu bq))))))) (.k [0,1,2,3,4] (.n (.n (.n (.t (.cW [6] ⟨[(10,.s (.ref 10 [])),(11,.s (.ref 11 []))],[(10,d6),(11,d6)]⟩) (.t (.x [] ⟨[(10,.s (.ref 10 [])),(11,.s (.ref 11 [])),(27,.v .bool)],[(10,d6),(11,d6)]⟩) .l .l) (.n (.t (.x [] ⟨[(10,.s (.ref 10 [])),(11,.s (.ref 11 [])),(13,.v aO)],[(10,d6),(11,d6)]⟩) (.n (.t .none (.n (.t (.x [6,13] ⟨[(10,.s (.ref 10 [])),(11,.s (.ref 11 [])),(42,.v .bool)],[(10,d6),(11,d6)]⟩) .l .l)) .l)) (.t (.x [13] ⟨[(10,.s (.ref 10 [])),(11,.s (.ref 11 [])),(15,.v .bool)],[(10,d6),(11,d6)]⟩) .l (.t (.x [] ⟨[(10,.s (.ref 10 [])),(11,.s (.ref 11 []))],[(10,d6),(11,d6)]⟩) (.n (.t .none (.d [(0,[1000011],[]),(1,[],[]),(2,[],[]),(3,[1000011],[11])]) .l)) .l))))))))) Tryz.func212 Tryz.call212 [(6,hl),(10,b1),(11,b1),(14,b1)]
def adX:bg:=⟨213,[.v b1],[aO,.bool],JX⟩
theorem aqt:be E adX:=
 .q (aM Ma bq) (.k [0] (.n (.n (.n (.n (.t .none (.n (.o (.p ⟨[(1,.s (.ref 1 [])),(4,.v cx),(5,.v aO)],[(1,d6)]⟩ (.x 0 ⟨[(1,.s (.ref 1 [])),(4,.v cx)],[(1,d6)]⟩) .l))) .l)))))) Tryz.func213 Tryz.call213
def ac1:bg:=⟨141,[.v .bool,.v b1,.v aO,.v .bool,.v aO],[cx],J9⟩
theorem apZ:be E ac1:=
 .q (aM RM (aM ZI (aM aqt (aM aqs (aM aqr (aM Zw bq)))))) (.k [0,1,2,3,4] (.n (.n (.n (.n (.n (.t (.x [12] ⟨[(13,.s (.ref 13 []))],[(13,d6)]⟩) .l (.n (.t (.x [] ⟨[(12,.v aO),(14,.v aO)],[]⟩) .l (.t (.cW [14] ⟨[],[]⟩) (.o (.t (.x [12] ⟨[(54,.v .bool)],[]⟩) .l .l)) .l)))))))))) Tryz.func141 Tryz.call141 [(6,hl),(13,b1)]
def aft:bg:=⟨81,[.v cG,.v aO],[cx],E5⟩
theorem Z1:be E aft:=
 .q (aM RN (aM RK (aM RJ (aM apZ bq)))) (.k [0,1] (.n (.n (.n (.n (.t .none (.d [(0,[1000002,4000002],[]),(1,[4000002,5000002],[]),(2,[5000002],[]),(3,[1000002,4000002],[]),(4,[4000002],[]),(5,[],[]),(6,[1000002,6000002],[]),(7,[6000002],[]),(8,[],[]),(9,[],[]),(10,[],[])]) .l)))))) Tryz.func81 Tryz.call81
def afa:bg:=⟨52,[.v aO,.v aO],[cx],zp⟩
theorem ZW:be E afa:=
 .q (aM Z1 (aM Zq bq)) (.k [0,1] .l) Tryz.func52 Tryz.call52
def adC:bg:=⟨192,[.v aO,.v aO,.v aO],[.bool],JJ⟩
theorem aqe:be E adC:=
 .q bq (.k [0,1,2] .l) Tryz.func192 Tryz.call192
def aeH:bg:=⟨269,[.v aO],[.bool],wW⟩
theorem ZS:be E aeH:=
 .q bq (.k [0] .l) Tryz.func269 Tryz.call269
def aef:bg:=⟨234,[.v aO,.v aO],[.bool],zf⟩
theorem RD:be E aef:=
 .q (aM ZS bq) (.k [0,1] .l) Tryz.func234 Tryz.call234
def aei:bg:=⟨242,[.v hk],[.bool],JO⟩
theorem aqz:be E aei:=
 .q (aM RD bq) (.k [0] (.n (.t .none (.n (.o (.p ⟨[(3,.v aO)],[]⟩ (.cW 0 ⟨[],[]⟩) .l))) .l))) Tryz.func242 Tryz.call242
def adD:bg:=⟨193,[.v kv],[.bool],JG⟩
theorem aqf:be E adD:=
 .q (aM aqz bq) (.k [0] (.n (.t (.cW [1] ⟨[],[]⟩) .l (.t .none (.n (.o (.k [1,49] (.p ⟨[(50,.v aO)],[]⟩ (.cW 0 ⟨[],[]⟩) (.n (.n (.t .none (.o (.n (.n (.n (.o (.k [50,66,67] (.p ⟨[(4,.v aO),(68,.v aO)],[]⟩ (.cW 2 ⟨[],[]⟩) (.n (.n (.t (.cW [68] ⟨[(4,.v aO)],[]⟩) (.o (.n (.t (.cW [6] ⟨[],[]⟩) .l .l))) .l)))))))))) .l))))))) .l)))) Tryz.func193 Tryz.call193 [(1,pi)]
def ac2:bg:=⟨142,[.v cx],[aO,cx],BZ⟩
theorem Rv:be E ac2:=
 .q bq (.k [0] .l) Tryz.func142 Tryz.call142
def afu:bg:=⟨84,[.v cx],[.bool],zg⟩
theorem Z2:be E afu:=
 .q (aM Rv bq) (.k [0] .l) Tryz.func84 Tryz.call84
def adF:bg:=⟨195,[.v cx],[.bool],Of⟩
theorem aqh:be E adF:=
 .q (aM Z2 bq) (.k [0] .l) Tryz.func195 Tryz.call195
def aej:bg:=⟨243,[.v oL,.c 195 []],[aO],Oh⟩
theorem aqA:be E aej:=
 .q (aM aqh bq) (.k [0,1] (.n (.t .none (.n (.o (.k [7] (.p ⟨[(8,.v aO)],[]⟩ (.cW 0 ⟨[],[]⟩) .l)))) .l))) Tryz.func243 Tryz.call243
def adE:bg:=⟨194,[.v oL,.c 195 []],[.bool],JM⟩
theorem aqg:be E adE:=
 .q (aM aqA bq) (.k [0,1] .l) Tryz.func194 Tryz.call194
def acJ:bg:=⟨121,[.v kv],[aO],wZ⟩
theorem L9:be E acJ:=
 .q (aM aqf (aM aqe (aM aqg bq))) (.k [0] (.n (.t .none (.o (.t (.x [1] ⟨[(3,.v .bool)],[]⟩) .l .l)) .l))) Tryz.func121 Tryz.call121 [(1,pi)]
def acK:bg:=⟨122,[.v hk,.v aO],[dC,.bool],Km⟩
theorem apL:be E acK:=
 .q bq (.k [0,1] (.n (.n (.n (.n (.t .none (.n (.o (.k [18,19] (.p ⟨[(6,.s (.ref 6 [])),(7,.s (.ref 7 [])),(20,.v aO)],[(6,dC),(7,jr)]⟩ (.cW 0 ⟨[(6,.s (.ref 6 []))],[(6,dC)]⟩) (.n (.n (.t (.cW [20] ⟨[(6,.s (.ref 6 [])),(7,.s (.ref 7 []))],[(6,dC),(7,jr)]⟩) (.o (.n (.t (.cW [8,9] ⟨[(6,.s (.ref 6 [])),(7,.s (.ref 7 []))],[(6,dC),(7,jr)]⟩) (.t (.x [] ⟨[(6,.s (.ref 6 [])),(7,.s (.ref 7 [])),(37,.v .bool)],[(6,dC),(7,jr)]⟩) .l .l) .l))) .l))))))) .l)))))) Tryz.func122 Tryz.call122 [(15,dC),(17,jr),(4,dC)]
def adG:bg:=⟨196,[.v kv],[fg],B8⟩
theorem ZC:be E adG:=
 .q bq (.k [0] (.n (.n (.t .none (.n (.o (.k [1,7] (.p ⟨[(3,.s (.ref 3 [])),(8,.v aO)],[(3,fg)]⟩ (.x 0 ⟨[(3,.s (.ref 3 []))],[(3,fg)]⟩) (.n (.n (.t .none (.o (.n (.n (.o (.k [4,8] (.p ⟨[(3,.s (.ref 3 [])),(5,.v aO)],[(3,fg)]⟩ (.x 2 ⟨[(3,.s (.ref 3 []))],[(3,fg)]⟩) (.n (.t .none (.o (.d [(0,[500003],[]),(1,[],[]),(2,[],[]),(3,[],[]),(4,[],[]),(5,[],[]),(6,[],[]),(7,[],[]),(8,[],[]),(9,[],[]),(10,[],[]),(11,[],[]),(12,[],[]),(13,[1000039],[39]),(14,[1000003,1000039,1000040],[3,40,500003,500040]),(15,[1000003,1000040],[3,40,500003,500040])])) .l)))))))) .l))))))) .l)))) Tryz.func196 Tryz.call196 [(1,pi),(3,fg)]
def aeI:bg:=⟨270,[.v (.bJ .ey ni)],[fg],Og⟩
theorem aqT:be E aeI:=
 .q bq (.k [0] .l) Tryz.func270 Tryz.call270 [(2,fg)]
def aeD:bg:=⟨264,[.v aO,.v aO],[aO],BW⟩
theorem ZR:be E aeD:=
 .q (aM ZS bq) (.k [0,1] .l) Tryz.func264 Tryz.call264
def aeL:bg:=⟨273,[.v hk],[aO],I6⟩
theorem aqW:be E aeL:=
 .q bq (.k [0] (.n (.n (.t .none (.n (.o (.k [3,6,7] (.p ⟨[(8,.v aO)],[]⟩ (.cW 0 ⟨[],[]⟩) .l)))) .l)))) Tryz.func273 Tryz.call273
def aeK:bg:=⟨272,[.v ni,.v ni],[aO],JI⟩
theorem aqV:be E aeK:=
 .q (aM aqW (aM ZR bq)) (.k [0,1] (.n (.t .none (.d [(0,[],[]),(1,[],[]),(2,[],[]),(3,[],[]),(4,[],[]),(5,[],[]),(6,[],[]),(7,[],[]),(8,[],[]),(9,[],[]),(10,[1000015],[15]),(11,[1000015],[]),(12,[],[])]) .l))) Tryz.func272 Tryz.call272 [(2,(.ptr .cD ni)),(3,(.ptr .cD ni))]
def ae1:bg:=⟨297,[.m fg,.v aO,.v aO,.c 272 []],[],ET⟩
theorem arb:be E ae1:=
 .q (aM aqV bq) (.k [1,2,3] (.n (.o (.p ⟨[(0,.s (.ref 0 [])),(8,.v aO)],[(0,fg)]⟩ (.x 0 ⟨[(0,.s (.ref 0 []))],[(0,fg)]⟩) (.n (.t .none (.o (.n (.o (.k [8] (.p ⟨[(0,.s (.ref 0 [])),(9,.v aO)],[(0,fg)]⟩ (.x 2 ⟨[(0,.s (.ref 0 []))],[(0,fg)]⟩) (.t (.cW [9] ⟨[(0,.s (.ref 0 []))],[(0,fg)]⟩) (.t .none (.d [(0,[],[]),(1,[],[]),(2,[],[]),(3,[],[]),(4,[],[]),(5,[500000],[]),(6,[],[]),(7,[0,1000000],[]),(8,[0],[]),(9,[500000],[]),(10,[],[]),(11,[],[]),(12,[0,1000000],[]),(13,[0],[]),(14,[],[]),(15,[],[]),(16,[],[])]) .l) (.t .none (.o (.d [(0,[500000],[]),(1,[],[]),(2,[500000],[]),(3,[],[]),(4,[],[]),(5,[500000],[]),(6,[],[]),(7,[],[]),(8,[0,1000000],[]),(9,[0],[]),(10,[500000],[]),(11,[],[]),(12,[0,1000000],[]),(13,[0],[]),(14,[0,1000000],[]),(15,[0],[0]),(16,[0,1000000],[]),(17,[0],[0])])) .l))))))) .l)))))) Tryz.func297 Tryz.call297
def aeT:bg:=⟨287,[.m fg,.v aO,.c 272 []],[],Ol⟩
theorem aq3:be E aeT:=
 .q (aM arb bq) (.k [1,2] (.n (.n (.t .none (.o (.k [6] (.p ⟨[(0,.s (.ref 0 [])),(7,.v aO),(8,.v aO)],[(0,fg)]⟩ (.x 0 ⟨[(0,.s (.ref 0 [])),(7,.v aO)],[(0,fg)]⟩) .l))) (.n (.o (.p ⟨[(0,.s (.ref 0 [])),(6,.v aO)],[(0,fg)]⟩ (.x 2 ⟨[(0,.s (.ref 0 []))],[(0,fg)]⟩) (.n (.o (.t .none (.z [777777] .l) .l)))))))))) Tryz.func287 Tryz.call287
def aeJ:bg:=⟨271,[.m fg,.c 272 []],[],Ok⟩
theorem aqU:be E aeJ:=
 .q (aM aq3 bq) (.k [1] .l) Tryz.func271 Tryz.call271
def aek:bg:=⟨244,[.v (.bJ .ey ni)],[fg],JH⟩
theorem aqB:be E aek:=
 .q (aM aqT (aM aqU bq)) .l Tryz.func244 Tryz.call244
def adH:bg:=⟨197,[.v aO,.v aO,.v (.bJ .ey ni)],[lS],JF⟩
theorem aqi:be E adH:=
 .q (aM aqB bq) (.k [0,1,2] (.n (.n (.t .none (.n (.o (.k [19] (.p ⟨[(6,.s (.ref 6 [])),(7,.s (.ref 7 [])),(18,.s (.ref 18 [])),(20,.v aO)],[(6,ef),(7,ef),(18,fg)]⟩ (.x 0 ⟨[(6,.s (.ref 6 [])),(7,.s (.ref 7 []))],[(6,ef),(7,ef)]⟩) (.n (.n (.t .none (.o (.n (.t .none (.d [(0,[1000007,8000007],[]),(1,[8000007],[]),(2,[1000009,2000009],[]),(3,[2000009],[]),(4,[1000028],[28]),(5,[29,1000028,8000007,9000007],[29,1500007,10500007,11500007]),(6,[1000007,10000007],[]),(7,[10000007],[]),(8,[1000009,6000009],[]),(9,[6000009],[]),(10,[1000034],[34]),(11,[35,1000034,10000007,11000007],[35,1500007,8500007,9500007]),(12,[1000007,8000007],[]),(13,[29,8000007,9000007],[7,29,500029]),(14,[1000007,10000007],[]),(15,[35,10000007,11000007],[7,35,500035])]) .l))) .l))))))) (.t .none (.n (.o (.k [48] (.p ⟨[(6,.s (.ref 6 [])),(7,.s (.ref 7 [])),(49,.v aO)],[(6,ef),(7,ef)]⟩ (.x 2 ⟨[(6,.s (.ref 6 [])),(7,.s (.ref 7 []))],[(6,ef),(7,ef)]⟩) (.n (.n (.t .none (.o (.n (.d [(0,[1000007,6000007],[]),(1,[6000007],[]),(2,[],[]),(3,[],[]),(4,[6000007,7000007],[]),(5,[7000007],[]),(6,[1000007,6000007],[]),(7,[6000007],[]),(8,[],[]),(9,[6000007,7000007],[]),(10,[7000007],[]),(11,[],[]),(12,[6000007,7000007],[]),(13,[7000007],[7])]))) .l))))))) .l))))) Tryz.func197 Tryz.call197 [(6,lS),(15,dC),(16,lS),(7,lS),(9,ni)]
def acL:bg:=⟨123,[.v kv],[nj,aO],JE⟩
theorem apM:be E acL:=
 .q (aM aqi (aM ZC (aM L9 bq))) (.k [0] (.n (.n (.n (.n (.t .none (.n (.o (.k [1,16] (.p ⟨[(2,.s (.ref 2 [])),(5,.s (.ref 5 [])),(15,.s (.ref 15 [])),(17,.v aO)],[(2,(.optr nj)),(5,fg),(15,fg)]⟩ (.x 0 ⟨[(2,.s (.ref 2 [])),(5,.s (.ref 5 []))],[(2,(.optr nj)),(5,fg)]⟩) (.n (.n (.t (.x [17] ⟨[(2,.s (.ref 2 [])),(5,.s (.ref 5 [])),(15,.s (.ref 15 []))],[(2,(.optr nj)),(5,fg),(15,fg)]⟩) .l .l))))))) .l)))))) Tryz.func123 Tryz.call123 [(1,pi),(2,nj),(5,fg),(7,ni)] [(999999,36)]
def adI:bg:=⟨198,[.v aO],[hx],EI⟩
theorem ZD:be E adI:=
 .q bq (.k [0] (.n (.n (.t .none (.n (.o (.k [8] (.p ⟨[(3,.s (.ref 3 [])),(9,.v aO)],[(3,hx)]⟩ (.x 0 ⟨[(3,.s (.ref 3 []))],[(3,hx)]⟩) .l)))) .l)))) Tryz.func198 Tryz.call198 [(6,hx),(15,jr)]
def adJ:bg:=⟨199,[.v kv],[fg],JD⟩
theorem aqj:be E adJ:=
 .q (aM ZC (aM L9 bq)) (.k [0] .l) Tryz.func199 Tryz.call199 [(1,pi),(2,fg)]
def adL:bg:=⟨200,[.m hx,.v aO,.v aO],[],EL⟩
theorem ZF:be E adL:=
 .q bq (.k [1,2] (.n (.t .none (.d [(0,[500000],[]),(1,[],[]),(2,[0,1000000],[]),(3,[0],[]),(4,[],[]),(5,[500000],[]),(6,[],[]),(7,[0,1000000],[]),(8,[0],[]),(9,[],[]),(10,[0],[]),(11,[0],[0]),(12,[0],[]),(13,[0],[0])]) .l))) Tryz.func200 Tryz.call200
def ael:bg:=⟨245,[.v (.bJ .ey (.bJ .ey .bool)),.v aO],[dC],Jp⟩
theorem aqC:be E ael:=
 .q bq (.k [0,1] (.n (.n (.t .none (.n (.o (.k [11,12] (.p ⟨[(5,.s (.ref 5 [])),(13,.v aO)],[(5,dC)]⟩ (.x 0 ⟨[(5,.s (.ref 5 []))],[(5,dC)]⟩) (.n (.n (.t (.x [13] ⟨[(5,.s (.ref 5 []))],[(5,dC)]⟩) .l .l))))))) .l)))) Tryz.func245 Tryz.call245 [(5,dC)]
def adM:bg:=⟨201,[.v (.bJ .ey (.bJ .ey .bool))],[kf],EK⟩
theorem ZG:be E adM:=
 .q (aM aqC bq) (.k [0] (.n (.n (.t .none (.n (.o (.k [10] (.p ⟨[(2,.s (.ref 2 [])),(3,.s (.ref 3 [])),(11,.v aO)],[(2,(.optr kf)),(3,(.optr kf))]⟩ (.x 0 ⟨[(2,.s (.ref 2 [])),(3,.s (.ref 3 []))],[(2,(.optr kf)),(3,(.optr kf))]⟩) (.n (.n (.t .none (.o (.n (.d [(0,[1000003,2000003],[]),(1,[2000003],[]),(2,[],[]),(3,[],[]),(4,[],[]),(5,[1000019],[19]),(6,[2000003,3000003],[]),(7,[1000019,3000003],[3,19,500019])]))) .l))))))) .l)))) Tryz.func201 Tryz.call201 [(2,kf),(7,(.osl hy)),(3,kf)] [(999999,19)]
def acM:bg:=⟨124,[.v kv],[g8,aO],EH⟩
theorem apN:be E acM:=
 .q (aM ZG (aM ZF (aM aqj (aM ZD (aM L9 bq))))) (.k [0] (.n (.n (.n (.n (.t .none (.n (.o (.k [27] (.p ⟨[(2,.s (.ref 2 [])),(5,.s (.ref 5 [])),(26,.s (.ref 26 [])),(28,.v aO)],[(2,(.optr g8)),(5,hx),(26,fg)]⟩ (.x 1 ⟨[(2,.s (.ref 2 [])),(5,.s (.ref 5 []))],[(2,(.optr g8)),(5,hx)]⟩) .l)))) .l)))))) Tryz.func124 Tryz.call124 [(1,pi),(2,g8),(7,ni)] [(999999,40)]
def aed:bg:=⟨230,[.v hk,.v aO],[.bool],Jq⟩
theorem aqw:be E aed:=
 .q bq (.k [0,1] (.n (.n (.t .none (.n (.o (.k [8,9] (.p ⟨[(5,.v aO),(10,.v aO)],[]⟩ (.cW 0 ⟨[],[]⟩) (.n (.n (.t (.cW [10] ⟨[(5,.v aO)],[]⟩) (.o (.n (.t (.cW [7] ⟨[],[]⟩) .l .l))) .l))))))) .l)))) Tryz.func230 Tryz.call230
def aeg:bg:=⟨235,[.v aO],[.bool],JQ⟩
theorem aqx:be E aeg:=
 .q bq (.k [0] .l) Tryz.func235 Tryz.call235
def adA:bg:=⟨185,[.v hk,.v aO],[aO,.bool],JK⟩
theorem aqc:be E adA:=
 .q (aM aqx (aM RD bq)) (.k [0,1] (.n (.n (.n (.t .none (.o (.k [6] (.p ⟨[(7,.v aO),(8,.v aO)],[]⟩ (.x 0 ⟨[(7,.v aO)],[]⟩) .l))) .l))))) Tryz.func185 Tryz.call185
def aee:bg:=⟨231,[.v mE,.v aO,.v aO],[.bool],B0⟩
theorem ZO:be E aee:=
 .q (aM aqc bq) (.k [0,1,2] .l) Tryz.func231 Tryz.call231 [(3,lT)]
def ady:bg:=⟨178,[.v mE],[aO],EG⟩
theorem ZB:be E ady:=
 .q (aM ZO (aM aqw bq)) (.k [0] (.n (.n (.n (.t .none (.n (.o (.k [1,3,16,17] (.p ⟨[(18,.v aO)],[]⟩ (.cW 0 ⟨[],[]⟩) (.n (.n (.t (.cW [18] ⟨[],[]⟩) .l .l))))))) (.t .none (.n (.o (.k [1,35,36] (.p ⟨[(37,.v aO)],[]⟩ (.cW 2 ⟨[],[]⟩) (.n (.n (.t .none (.o (.n (.n (.o (.k [6,37,42,43] (.p ⟨[(44,.v aO)],[]⟩ (.cW 4 ⟨[],[]⟩) .l)))))) .l))))))) .l)))))) Tryz.func178 Tryz.call178 [(1,lT)]
def aeo:bg:=⟨248,[.v mE,.v aO],[.bool],Jt⟩
theorem aqF:be E aeo:=
 .q bq (.k [0,1] .l) Tryz.func248 Tryz.call248 [(2,lT)]
def ae6:bg:=⟨311,[.v cx],[aO],Vi⟩
theorem arh:be E ae6:=
 .q bq (.n (.t (.x [] ⟨[(0,.v cx),(2,.v aO)],[]⟩) .l (.t (.x [] ⟨[(0,.v cx),(2,.v aO)],[]⟩) .l (.t (.x [] ⟨[(0,.v cx),(2,.v aO)],[]⟩) .l .l)))) Tryz.func311 Tryz.call311
def ae4:bg:=⟨301,[.v cx],[aO],Oe⟩
theorem are:be E ae4:=
 .q (aM arh bq) (.k [0] .l) Tryz.func301 Tryz.call301
def ae5:bg:=⟨303,[.m dC,.v aO,.v aO],[],JP⟩
theorem arf:be E ae5:=
 .q (aM RD bq) (.k [1,2] (.n (.o (.p ⟨[(0,.s (.ref 0 [])),(6,.v aO)],[(0,dC)]⟩ (.x 0 ⟨[(0,.s (.ref 0 []))],[(0,dC)]⟩) (.n (.t .none (.o (.n (.o (.k [6] (.p ⟨[(0,.s (.ref 0 [])),(7,.v aO)],[(0,dC)]⟩ (.x 2 ⟨[(0,.s (.ref 0 []))],[(0,dC)]⟩) (.t (.cW [7] ⟨[(0,.s (.ref 0 []))],[(0,dC)]⟩) (.t .none (.d [(0,[],[]),(1,[],[]),(2,[],[]),(3,[],[]),(4,[500000],[]),(5,[],[]),(6,[0,1000000],[]),(7,[0],[]),(8,[500000],[]),(9,[],[]),(10,[],[]),(11,[0,1000000],[]),(12,[0],[]),(13,[],[]),(14,[],[])]) .l) (.t .none (.o (.d [(0,[500000],[]),(1,[],[]),(2,[500000],[]),(3,[],[]),(4,[],[]),(5,[500000],[]),(6,[],[]),(7,[],[]),(8,[0,1000000],[]),(9,[0],[]),(10,[500000],[]),(11,[],[]),(12,[0,1000000],[]),(13,[0],[]),(14,[0,1000000],[]),(15,[0],[0]),(16,[0,1000000],[]),(17,[0],[0])])) .l))))))) .l)))))) Tryz.func303 Tryz.call303
def ae3:bg:=⟨300,[.m dC,.v aO,.v aO,.v aO],[],JR⟩
theorem ard:be E ae3:=
 .q (aM arf bq) (.n (.n (.o (.p ⟨[(0,.s (.ref 0 [])),(1,.v aO),(2,.v aO),(3,.v aO),(8,.v .bool),(9,.v .bool)],[(0,dC)]⟩ .r (.o (.n (.n (.t .none (.t .none (.z [777777] .l) .l) .l)))))))) Tryz.func300 Tryz.call300
def aeU:bg:=⟨289,[.m dC],[],ES⟩
theorem aq4:be E aeU:=
 .q (aM are (aM ard bq)) .l Tryz.func289 Tryz.call289
def aep:bg:=⟨249,[.v hk],[.bool],Js⟩
theorem aqG:be E aep:=TR.auz rfl (sort:=fun l=>(ES (l,())).map fun r=>r.1) (fun zs aS h=>by obtain⟨r,hr,rfl⟩:=eM.1 h;exact aq4.2 (zs,()) r hr)
def aen:bg:=⟨247,[.v aO,.v lT],[.bool],Oc⟩
theorem aqE:be E aen:=
 .q (aM aqF bq) (.k [0,1] .l) Tryz.func247 Tryz.call247
def aeM:bg:=⟨274,[.v hk,.c 247 [lT]],[aO],Oi⟩
theorem aqX:be E aeM:=
 .q (aM aqE bq) (.k [0,1] (.n (.t .none (.n (.o (.k [7] (.p ⟨[(8,.v aO)],[]⟩ (.cW 0 ⟨[],[]⟩) .l)))) .l))) Tryz.func274 Tryz.call274
def aem:bg:=⟨246,[.v hk,.c 247 [lT]],[.bool],JN⟩
theorem aqD:be E aem:=
 .q (aM aqX bq) (.k [0,1] .l) Tryz.func246 Tryz.call246
def adN:bg:=⟨202,[.v mE,.v hk],[aO],Jo⟩
theorem aql:be E adN:=
 .q (aM aqG (aM ZB (aM aqD bq))) (.k [0,1] .l) Tryz.func202 Tryz.call202 [(2,lT)]
def adO:bg:=⟨203,[.v mE,.v hk],[g8],Jr⟩
theorem aqm:be E adO:=
 .q (aM ZO (aM ZG (aM ZF (aM ZD bq)))) (.k [0,1] (.n (.n (.t .none (.n (.o (.k [2,13,14] (.p ⟨[(4,.s (.ref 4 [])),(5,.s (.ref 5 [])),(15,.v aO)],[(4,(.optr g8)),(5,hx)]⟩ (.x 0 ⟨[(4,.s (.ref 4 [])),(5,.s (.ref 5 []))],[(4,(.optr g8)),(5,hx)]⟩) (.n (.n (.t .none (.o (.n (.n (.o (.k [6,7,15,22,23] (.p ⟨[(4,.s (.ref 4 [])),(5,.s (.ref 5 [])),(24,.v aO)],[(4,(.optr g8)),(5,hx)]⟩ (.x 2 ⟨[(4,.s (.ref 4 [])),(5,.s (.ref 5 []))],[(4,(.optr g8)),(5,hx)]⟩) (.n (.n (.t (.x [24] ⟨[(4,.s (.ref 4 [])),(5,.s (.ref 5 []))],[(4,(.optr g8)),(5,hx)]⟩) .l .l))))))))) .l))))))) .l)))) Tryz.func203 Tryz.call203 [(2,lT),(4,g8)] [(999999,40)]
def acN:bg:=⟨125,[.v mE,.v hk],[g8,aO],EJ⟩
theorem apO:be E acN:=
 .q (aM aqm (aM aql bq)) (.k [0,1] .l) Tryz.func125 Tryz.call125 [(2,lT),(4,g8)]
def ad3:bg:=⟨219,[.v d5],[d5],it⟩
theorem m3:be E ad3:=
 .q bq (.k [0] (.n (.n (.t .none (.o (.p ⟨[(3,.v aO)],[]⟩ (.x 0 ⟨[(3,.v aO)],[]⟩) (.t (.cW [3] ⟨[],[]⟩) .l .l))) .l)))) Tryz.func219 Tryz.call219
def ad4:bg:=⟨220,[.v .bool,.v d5],[b1],mJ⟩
theorem vJ:be E ad4:=
 .q (aM m3 bq) (.k [0] .l) Tryz.func220 Tryz.call220 [(4,b1)]
def ac5:bg:=⟨145,[.v aO],[b1],B2⟩
theorem Rw:be E ac5:=
 .q (aM vJ bq) (.k [0] (.n (.n (.t (.x [] ⟨[(2,.s (.ref 2 [])),(3,.v cx)],[(2,d6)]⟩) .l .l)))) Tryz.func145 Tryz.call145 [(2,b1)] [(19,18)]
def ac6:bg:=⟨146,[.v cx],[.bool],Jm⟩
theorem ap0:be E ac6:=
 .q bq (.k [0] .l) Tryz.func146 Tryz.call146
def ad5:bg:=⟨221,[.v d5],[dm],zn⟩
theorem Mb:be E ad5:=
 .q bq (.k [0] .l) Tryz.func221 Tryz.call221 [(2,dm)]
def ac7:bg:=⟨147,[.v b1],[b1],wY⟩
theorem Rx:be E ac7:=
 .q (aM Mb (aM vJ bq)) (.k [0] (.n (.t .none (.d [(0,[],[]),(1,[],[]),(2,[],[]),(3,[],[]),(4,[],[]),(5,[1000008],[8]),(6,[1000008],[8,500008]),(7,[1000002],[2])]) .l))) Tryz.func147 Tryz.call147 [(1,hl),(2,b1)] [(9,8)]
def adq:bg:=⟨167,[],[cG],ED⟩
theorem RA:be E adq:=
 .q bq .l Tryz.func167 Tryz.call167 [(0,cG)]
def adZ:bg:=⟨215,[.v b1],[b1],Jw⟩
theorem aqu:be E adZ:=
 .q (aM Mb (aM vJ bq)) (.k [0] (.n (.t .none (.d [(0,[],[]),(1,[],[]),(2,[],[]),(3,[],[]),(4,[1000007],[7]),(5,[1000007],[7,500007]),(6,[1000002],[2])]) .l))) Tryz.func215 Tryz.call215 [(1,hl),(2,b1)] [(8,7)]
def ac4:bg:=⟨144,[.v b1],[aO],rG⟩
theorem AH:be E ac4:=
 .q (aM m3 bq) (.k [0] .l) Tryz.func144 Tryz.call144 [(1,hl)]
def ad0:bg:=⟨216,[.v b1],[aO],EO⟩
theorem ZJ:be E ad0:=
 .q (aM ZL bq) (.k [0] (.n (.t .none (.n (.o (.k [6,7] (.p ⟨[(8,.v aO)],[]⟩ (.cW 0 ⟨[],[]⟩) .l)))) .l))) Tryz.func216 Tryz.call216 [(1,hl)]
def aeC:bg:=⟨263,[.v d5],[aO],B4⟩
theorem ZQ:be E aeC:=
 .q (aM RC bq) (.k [0] .l) Tryz.func263 Tryz.call263
def ad1:bg:=⟨217,[.v b1],[aO],uJ⟩
theorem Hf:be E ad1:=
 .q (aM ZQ (aM m3 bq)) (.k [0] .l) Tryz.func217 Tryz.call217 [(1,hl)]
def aeF:bg:=⟨266,[.v d5,.v aO],[d5],zm⟩
theorem RE:be E aeF:=
 .q (aM m3 bq) (.k [0,1] (.n (.n (.n (.n (.t .none (.n (.o (.k [5,6,25,26] (.p ⟨[(7,.s (.ref 7 [])),(27,.v aO)],[(7,dm)]⟩ (.x 0 ⟨[(7,.s (.ref 7 []))],[(7,dm)]⟩) .l)))) (.t .none (.z [7] .l) .l))))))) Tryz.func266 Tryz.call266 [(24,dm)]
def aeS:bg:=⟨284,[.v eR],[.bool],Od⟩
theorem aq2:be E aeS:=
 .q bq (.k [0] .l) Tryz.func284 Tryz.call284
def ae0:bg:=⟨296,[.v d5,.c 284 []],[aO],Oj⟩
theorem ara:be E ae0:=
 .q (aM aq2 bq) (.k [0,1] (.n (.t .none (.n (.o (.k [7] (.p ⟨[(8,.v aO)],[]⟩ (.cW 0 ⟨[],[]⟩) .l)))) .l))) Tryz.func296 Tryz.call296
def aeR:bg:=⟨283,[.v d5,.c 284 []],[.bool],ER⟩
theorem aq1:be E aeR:=
 .q (aM ara bq) (.k [0,1] .l) Tryz.func283 Tryz.call283
def aeG:bg:=⟨267,[.v d5,.v aO],[d5,.bool],B3⟩
theorem RF:be E aeG:=
 .q (aM m3 (aM aq1 bq)) (.k [0,1] (.n (.n (.n (.t (.x [6,7] ⟨[(8,.v .bool)],[]⟩) .l (.n (.t .none (.n (.o (.k [6,7,8,45] (.p ⟨[(9,.s (.ref 9 [])),(46,.v aO)],[(9,dm)]⟩ (.x 0 ⟨[(9,.s (.ref 9 []))],[(9,dm)]⟩) (.n (.n (.t (.x [46] ⟨[(9,.s (.ref 9 []))],[(9,dm)]⟩) (.o (.n (.n (.t (.x [10] ⟨[(9,.s (.ref 9 [])),(11,.v cx)],[(9,dm)]⟩) .l .l)))) .l))))))) (.t .none (.z [9] .l) .l)))))))) Tryz.func267 Tryz.call267 [(43,dm)]
def ad9:bg:=⟨225,[.v d5,.v d5],[d5],zl⟩
theorem Mc:be E ad9:=
 .q (aM m3 bq) (.n (.t (.x [] ⟨[(0,.v d5),(1,.v d5)],[]⟩) .l (.n (.n (.t .none (.n (.o (.k [1,21,22] (.p ⟨[(5,.s (.ref 5 [])),(6,.v cx),(23,.v aO)],[(5,dm)]⟩ (.x 0 ⟨[(5,.s (.ref 5 [])),(6,.v cx)],[(5,dm)]⟩) (.n (.n (.t (.x [23] ⟨[(5,.s (.ref 5 [])),(6,.v cx)],[(5,dm)]⟩) (.o (.n (.n (.t (.x [] ⟨[(5,.s (.ref 5 [])),(9,.v cx)],[(5,dm)]⟩) .l .l)))) .l))))))) .l))))) Tryz.func225 Tryz.call225 [(20,dm)] [(57,56)]
def aec:bg:=⟨228,[.v b1,.v aO],[b1,aO],uK⟩
theorem ZN:be E aec:=
 .q (aM RF (aM RE (aM Mc (aM vJ (aM m3 bq))))) (.k [0,1] (.n (.t (.cW [2] ⟨[(4,.s (.ref 4 []))],[(4,d6)]⟩) (.t (.x [] ⟨[(4,.s (.ref 4 [])),(14,.v .bool)],[(4,d6)]⟩) .l .l) (.n (.t .none (.n (.t .none (.t .none (.d [(0,[],[]),(1,[],[]),(2,[],[]),(3,[],[]),(4,[],[]),(5,[],[]),(6,[1000004],[4]),(7,[],[])]) .l) .l)) (.n (.t (.x [2] ⟨[(4,.s (.ref 4 [])),(7,.v d5)],[(4,d6)]⟩) (.t (.x [7] ⟨[(4,.s (.ref 4 [])),(38,.v .bool)],[(4,d6)]⟩) .l .l) .l))))))) Tryz.func228 Tryz.call228 [(2,hl),(4,b1)] [(41,40)]
def ad2:bg:=⟨218,[.v b1,.v aO],[b1],EE⟩
theorem ZK:be E ad2:=
 .q (aM ZN bq) (.k [0] (.n (.t .none (.o (.p ⟨[(1,.v aO),(2,.s (.ref 2 [])),(4,.s (.ref 4 []))],[(2,d6),(4,d6)]⟩ (.x 0 ⟨[(1,.v aO),(2,.s (.ref 2 [])),(4,.s (.ref 4 []))],[(2,d6),(4,d6)]⟩) .l)) .l))) Tryz.func218 Tryz.call218 [(4,b1)]
def ac3:bg:=⟨143,[.v cG],[cG,.bool],rF⟩
theorem Dk:be E ac3:=
 .q (aM ZK (aM Hf (aM ZJ (aM aqu (aM RA (aM AH bq)))))) (.k [0] (.n (.n (.n (.n (.n (.t (.cW [1,5] ⟨[(2,.s (.ref 2 [])),(4,.s (.ref 4 []))],[(2,jq),(4,d6)]⟩) (.t (.x [] ⟨[(2,.s (.ref 2 [])),(4,.s (.ref 4 [])),(30,.v .bool)],[(2,jq),(4,d6)]⟩) (.d [(0,[],[]),(1,[],[]),(2,[1000004],[]),(3,[],[]),(4,[],[]),(5,[],[]),(6,[],[]),(7,[],[]),(8,[],[]),(9,[],[]),(10,[],[]),(11,[],[]),(12,[],[])]) .l) (.t .none (.d [(0,[1000004],[]),(1,[],[]),(2,[],[]),(3,[],[]),(4,[],[]),(5,[],[]),(6,[],[]),(7,[],[]),(8,[1000002],[2]),(9,[],[])]) .l)))))))) Tryz.func143 Tryz.call143 [(1,yX),(2,cG),(4,b1)]
def ac8:bg:=⟨148,[.v b1,.v aO],[cG],BX⟩
theorem Ry:be E ac8:=
 .q (aM Dk bq) (.k [0,1] .l) Tryz.func148 Tryz.call148 [(2,hl),(4,cG),(5,cG)]
def afw:bg:=⟨86,[.v cx],[cG],zh⟩
theorem Z3:be E afw:=
 .q (aM Ry (aM Rx (aM ap0 (aM Rw (aM Rv bq))))) (.k [0] (.n (.n (.t (.cW [] ⟨[(2,.s (.ref 2 [])),(3,.v aO),(4,.v cx)],[(2,jq)]⟩) .l (.n (.t (.x [3] ⟨[(2,.s (.ref 2 [])),(5,.s (.ref 5 []))],[(2,jq),(5,d6)]⟩) .l .l)))))) Tryz.func86 Tryz.call86 [(2,cG),(5,b1)]
def afd:bg:=⟨55,[.v kv,.v hk],[(.ptr .cD (.st (.pr aO (.pr g8 (.pr (.bJ .cD (.ee .cD cG)) .nil))))),aO],zr⟩
theorem arn:be E afd:=
 .q (aM Z3 (aM apO (aM apN (aM apM (aM apL (aM L9 bq)))))) (.k [0,1] (.n (.n (.n (.n (.n (.n (.n (.n (.t .none (.d [(0,[1000002,4000002],[]),(1,[4000002],[]),(2,[1000011],[]),(3,[1000002,4000002],[]),(4,[4000002],[]),(5,[1000060],[60]),(6,[1000060,1000061],[60,61,500060]),(7,[1000061,1000062],[61,62,500061]),(8,[1000013,1000062],[13,62,500013,500062])]) (.t .none (.n (.o (.k [7,67] (.p ⟨[(2,.s (.ref 2 [])),(13,.s (.ref 13 [])),(68,.v aO)],[(2,(.optr kv)),(13,yW)]⟩ (.x 0 ⟨[(2,.s (.ref 2 [])),(13,.s (.ref 13 []))],[(2,(.optr kv)),(13,yW)]⟩) .l)))) (.t .none (.n (.o (.k [7,80] (.p ⟨[(2,.s (.ref 2 [])),(13,.s (.ref 13 [])),(81,.v aO)],[(2,(.optr kv)),(13,yW)]⟩ (.x 2 ⟨[(13,.s (.ref 13 []))],[(13,yW)]⟩) (.n (.n (.t .none (.o (.n (.n (.o (.k [15,81] (.p ⟨[(2,.s (.ref 2 [])),(13,.s (.ref 13 [])),(16,.v aO)],[(2,(.optr kv)),(13,yW)]⟩ (.x 4 ⟨[(2,.s (.ref 2 [])),(13,.s (.ref 13 []))],[(2,(.optr kv)),(13,yW)]⟩) (.n (.t (.x [16] ⟨[(2,.s (.ref 2 [])),(13,.s (.ref 13 []))],[(2,(.optr kv)),(13,yW)]⟩) (.o (.n (.n (.t .none (.n (.d [(0,[500013],[]),(1,[1000013],[]),(2,[1000013,6000013],[]),(3,[6000013],[]),(4,[],[]),(5,[],[]),(6,[],[]),(7,[6000013,7000013],[]),(8,[7000013],[]),(9,[],[]),(10,[],[]),(11,[],[]),(12,[1000002,10000002],[]),(13,[10000002],[]),(14,[],[]),(15,[],[]),(16,[],[]),(17,[],[]),(18,[7000013],[13])])) .l)))) .l)))))))) .l))))))) (.t .none (.z [13] .l) .l))))))))))))) Tryz.func55 Tryz.call55 [(4,(.ptr .cD (.st (.pr aO (.pr g8 (.pr (.bJ .cD (.ee .cD cG)) .nil)))))),(7,hy),(9,nj),(11,g8),(60,(.osl (.mp cG))),(76,(.mp cG))] [(7,35000)]
def aer:bg:=⟨250,[.v aO],[qm],Ji⟩
theorem aqI:be E aer:=
 .q bq (.k [0] (.n (.t .none (.d [(0,[],[]),(1,[1000006],[6]),(2,[],[]),(3,[1000008],[8]),(4,[1000006,1000008,1000009],[6,8,9,500006,500008]),(5,[1000009,1000010],[9,10,500009]),(6,[1000003,1000010],[3,10,500003,500010])]) (.t .none (.n (.o (.k [11] (.p ⟨[(3,.s (.ref 3 [])),(12,.v aO)],[(3,qm)]⟩ (.x 0 ⟨[(3,.s (.ref 3 []))],[(3,qm)]⟩) (.n (.n (.t .none (.o (.n (.d [(0,[500003],[]),(1,[1000003],[]),(2,[1000003,2000003],[]),(3,[2000003],[]),(4,[],[]),(5,[500003],[]),(6,[1000003],[]),(7,[1000003,4000003],[]),(8,[4000003],[]),(9,[],[]),(10,[2000003,3000003],[]),(11,[3000003],[3]),(12,[4000003,5000003],[]),(13,[5000003],[3])]))) .l))))))) .l)))) Tryz.func250 Tryz.call250 [(6,dC),(8,dC)]
def aes:bg:=⟨251,[.m qm,.v aO,.v aO],[],Jh⟩
theorem aqJ:be E aes:=
 .q bq (.k [2] (.o (.p ⟨[(0,.s (.ref 0 [])),(1,.v aO)],[(0,qm)]⟩ (.x 0 ⟨[(0,.s (.ref 0 []))],[(0,qm)]⟩) (.t (.cW [1] ⟨[(0,.s (.ref 0 []))],[(0,qm)]⟩) .l (.o (.n (.n (.t (.x [6] ⟨[(0,.s (.ref 0 []))],[(0,qm)]⟩) .l .l)))))))) Tryz.func251 Tryz.call251
def adP:bg:=⟨204,[.v mE],[dC,aO],Jg⟩
theorem aqn:be E adP:=
 .q (aM aqJ (aM aqI (aM ZB bq))) (.k [0] (.n (.n (.n (.n (.t .none (.n (.o (.k [20,21] (.p ⟨[(5,.s (.ref 5 [])),(22,.v aO)],[(5,qm)]⟩ (.x 0 ⟨[(5,.s (.ref 5 []))],[(5,qm)]⟩) (.n (.n (.t .none (.o (.n (.n (.o (.k [6,22,27,28] (.p ⟨[(5,.s (.ref 5 [])),(29,.v aO)],[(5,qm)]⟩ (.x 2 ⟨[(5,.s (.ref 5 []))],[(5,qm)]⟩) .l)))))) .l))))))) .l)))))) Tryz.func204 Tryz.call204 [(1,lT),(2,dC)]
def adQ:bg:=⟨205,[.v mE,.v hk,.v aO],[dC],Kk⟩
theorem aqo:be E adQ:=
 .q bq (.k [0,1,2] (.n (.n (.n (.t .none (.n (.o (.k [23,24] (.p ⟨[(7,.s (.ref 7 [])),(25,.v aO)],[(7,jr)]⟩ (.x 0 ⟨[(7,.s (.ref 7 []))],[(7,jr)]⟩) (.n (.n (.t .none (.o (.n (.o (.k [25] (.p ⟨[(7,.s (.ref 7 [])),(9,.v aO)],[(7,jr)]⟩ (.x 2 ⟨[(7,.s (.ref 7 []))],[(7,jr)]⟩) (.t (.cW [9] ⟨[(7,.s (.ref 7 []))],[(7,jr)]⟩) .l .l)))))) .l))))))) (.n (.t .none (.n (.o (.k [52] (.p ⟨[(10,.s (.ref 10 [])),(51,.s (.ref 7 [])),(53,.v aO)],[(7,jr),(10,dC)]⟩ (.x 4 ⟨[(10,.s (.ref 10 []))],[(10,dC)]⟩) (.n (.n (.t (.x [53] ⟨[(10,.s (.ref 10 [])),(51,.s (.ref 7 []))],[(7,jr),(10,dC)]⟩) .l .l))))))) .l))))))) Tryz.func205 Tryz.call205 [(3,lT),(15,jr),(10,dC)]
def acO:bg:=⟨126,[.v mE],[(.osl dC),aO],Kj⟩
theorem apP:be E acO:=
 .q (aM aqo (aM aqn bq)) (.k [0] (.n (.n (.n (.n (.t .none (.n (.o (.k [1,4,22] (.p ⟨[(6,.s (.ref 6 [])),(23,.v aO)],[(6,(.osl dC))]⟩ (.x 0 ⟨[(6,.s (.ref 6 []))],[(6,(.osl dC))]⟩) (.n (.n (.t .none (.o (.n (.n (.o (.k [7,23,30] (.p ⟨[(6,.s (.ref 6 [])),(29,.s (.ref 29 [])),(31,.v aO)],[(6,(.osl dC)),(29,dC)]⟩ (.x 2 ⟨[(6,.s (.ref 6 []))],[(6,(.osl dC))]⟩) .l)))))) .l))))))) .l)))))) Tryz.func126 Tryz.call126 [(1,lT),(4,hy),(20,(.osl dC)),(2,(.osl dC))] [(4,13000)]
def afe:bg:=⟨56,[.v Iy],[rn],I2⟩
theorem aro:be E afe:=
 .q (aM apP bq) (.k [0] (.n (.n (.t .none (.d [(0,[],[]),(1,[],[]),(2,[],[]),(3,[],[]),(4,[],[]),(5,[1000023],[23]),(6,[],[]),(7,[],[]),(8,[],[]),(9,[],[]),(10,[1000028],[28]),(11,[],[]),(12,[],[]),(13,[],[]),(14,[],[]),(15,[1000033],[33]),(16,[1000023,1000028,1000033,1000034],[23,28,33,34,500023,500028,500033]),(17,[1000034,1000035],[34,35,500034]),(18,[1000005,1000035],[5,35,500005,500035])]) (.t .none (.n (.o (.k [36,37] (.p ⟨[(5,.s (.ref 5 [])),(38,.v aO)],[(5,rn)]⟩ (.x 0 ⟨[(5,.s (.ref 5 []))],[(5,rn)]⟩) (.n (.n (.t .none (.o (.n (.n (.o (.k [6,38,43,44] (.p ⟨[(5,.s (.ref 5 [])),(45,.v aO)],[(5,rn)]⟩ (.x 2 ⟨[(5,.s (.ref 5 []))],[(5,rn)]⟩) (.n (.n (.t (.x [45] ⟨[(5,.s (.ref 5 []))],[(5,rn)]⟩) (.o (.n (.n (.t .none (.d [(0,[500005],[]),(1,[1000005],[]),(2,[1000005,8000005],[]),(3,[8000005],[]),(4,[],[]),(5,[500005],[]),(6,[1000005],[]),(7,[1000005,8000005],[]),(8,[8000005],[]),(9,[],[]),(10,[8000005,9000005],[]),(11,[9000005],[]),(12,[],[]),(13,[1000065],[65]),(14,[66,1000065,9000005],[66,1500005,8500005]),(15,[8000005,9000005],[]),(16,[66,9000005],[5,66,500066])]) .l)))) .l))))))))) .l))))))) .l))))) Tryz.func56 Tryz.call56 [(23,TV),(28,(.osl (.mp cG))),(33,(.osl dC)),(3,(.bJ .cD hy))] [(3,16000)]
def acE:bg:=⟨107,[.v Iy,.v aO,.v aO],[cG],Kl⟩
theorem apH:be E acE:=
 .q bq (.k [0,1,2] .l) Tryz.func107 Tryz.call107 [(6,cG)]
def adp:bg:=⟨166,[.v cG,.v cG],[cG,cG,.bool],Jf⟩
theorem ap8:be E adp:=
 .q (aM Dk bq) (.k [0,1] (.n (.n (.n (.t .none (.d [(0,[1000004],[]),(1,[1000005],[]),(2,[],[]),(3,[],[]),(4,[],[]),(5,[],[]),(6,[1000004],[4]),(7,[1000005],[5]),(8,[],[])]) .l))))) Tryz.func166 Tryz.call166 [(2,yX),(3,yX),(4,cG),(5,cG)]
def ad8:bg:=⟨224,[.v d5,.v d5],[d5],JB⟩
theorem aqv:be E ad8:=
 .q (aM m3 bq) (.k [0,1] (.n (.t (.cW [] ⟨[],[]⟩) .l (.n (.t .none (.n (.o (.k [26,27] (.p ⟨[(5,.s (.ref 5 [])),(28,.v aO)],[(5,dm)]⟩ (.x 0 ⟨[(5,.s (.ref 5 []))],[(5,dm)]⟩) (.n (.n (.t .none (.o (.n (.n (.t .none (.n (.o (.k [6,7,28,33,34] (.p ⟨[(5,.s (.ref 5 [])),(8,.v cx),(35,.v aO)],[(5,dm)]⟩ (.x 2 ⟨[(5,.s (.ref 5 [])),(8,.v cx)],[(5,dm)]⟩) .l)))) .l)))) .l))))))) (.t .none (.z [5] .l) .l)))))) Tryz.func224 Tryz.call224 [(25,dm)]
def adr:bg:=⟨168,[.v b1,.v b1],[b1],EN⟩
theorem Zy:be E adr:=
 .q (aM aqv (aM vJ (aM m3 bq))) (.k [0,1] (.n (.t .none (.d [(0,[],[]),(1,[],[]),(2,[],[]),(3,[],[]),(4,[],[]),(5,[],[]),(6,[],[]),(7,[],[]),(8,[],[]),(9,[],[]),(10,[],[]),(11,[],[]),(12,[],[]),(13,[1000004],[4])]) .l))) Tryz.func168 Tryz.call168 [(2,hl),(3,hl),(4,b1)]
def acB:bg:=⟨103,[.v cG,.v cG],[cG],I8⟩
theorem apF:be E acB:=
 .q (aM Zy (aM RA (aM ap8 (aM Ry bq)))) (.k [0,1] (.n (.n (.n (.t .none (.d [(0,[1000002,4000002],[]),(1,[4000002],[]),(2,[1000003,4000003],[]),(3,[4000003],[]),(4,[],[]),(5,[1000002,6000002],[]),(6,[6000002],[]),(7,[1000003,6000003],[]),(8,[6000003],[]),(9,[],[]),(10,[],[]),(11,[1000004],[4])]) .l))))) Tryz.func103 Tryz.call103 [(4,cG)]
def adw:bg:=⟨173,[.v cG],[cG],I9⟩
theorem aqa:be E adw:=
 .q (aM Rx (aM Dk bq)) (.k [0] (.n (.n (.t (.x [] ⟨[(1,.s (.ref 1 [])),(2,.s (.ref 2 []))],[(1,jq),(2,jq)]⟩) .l .l)))) Tryz.func173 Tryz.call173 [(2,cG)]
def adu:bg:=⟨170,[.v b1,.v aO],[b1],rE⟩
theorem Hd:be E adu:=
 .q (aM ZN bq) (.k [0,1] .l) Tryz.func170 Tryz.call170 [(4,b1)]
def aeQ:bg:=⟨282,[.v eR],[.bool],I7⟩
theorem aq0:be E aeQ:=
 .q bq (.k [0] .l) Tryz.func282 Tryz.call282
def aeE:bg:=⟨265,[.v eR,.v eR],[aO],I5⟩
theorem aqS:be E aeE:=
 .q (aM aq0 bq) (.k [0,1] .l) Tryz.func265 Tryz.call265
def aea:bg:=⟨226,[.v d5,.v d5],[aO],zk⟩
theorem Md:be E aea:=
 .q (aM aqS (aM ZR bq)) (.k [0,1] (.n (.n (.t .none (.n (.o (.p ⟨[(5,.v aO)],[]⟩ (.cW 0 ⟨[],[]⟩) .l))) .l)))) Tryz.func226 Tryz.call226
def aeb:bg:=⟨227,[.v d5,.v d5],[d5],B5⟩
theorem ZM:be E aeb:=
 .q (aM m3 bq) (.k [0,1] (.n (.n (.n (.t .none (.n (.o (.k [13,14] (.p ⟨[(5,.s (.ref 5 [])),(6,.v cx),(15,.v aO)],[(5,dm)]⟩ (.x 0 ⟨[(5,.s (.ref 5 []))],[(5,dm)]⟩) (.n (.n (.t (.x [15] ⟨[(5,.s (.ref 5 [])),(6,.v cx)],[(5,dm)]⟩) (.o (.n (.n (.t (.x [7] ⟨[(5,.s (.ref 5 [])),(9,.v cx)],[(5,dm)]⟩) .l .l)))) .l))))))) (.t .none (.z [5] .l) .l)))))) Tryz.func227 Tryz.call227 [(12,dm)]
def ads:bg:=⟨169,[.v b1,.v b1],[b1],zj⟩
theorem RB:be E ads:=
 .q (aM ZM (aM Md (aM Mc (aM vJ (aM m3 bq))))) (.k [0,1] (.n (.n (.t .none (.o (.n (.t .none (.t .none (.d [(0,[],[]),(1,[],[]),(2,[],[]),(3,[],[]),(4,[],[]),(5,[],[]),(6,[1000004],[4])]) .l) (.n (.t .none (.t .none (.d [(0,[],[]),(1,[],[]),(2,[],[]),(3,[],[]),(4,[],[]),(5,[],[]),(6,[1000004],[4])]) .l) .l))))) (.t .none (.d [(0,[],[]),(1,[],[]),(2,[],[]),(3,[],[]),(4,[],[]),(5,[],[]),(6,[1000004],[4])]) .l))))) Tryz.func169 Tryz.call169 [(2,hl),(3,hl),(4,b1)]
def acC:bg:=⟨104,[.v (.bJ .ey cG)],[cG],Je⟩
theorem apG:be E acC:=
 .q (aM Hd (aM RB (aM RA (aM Ry (aM Dk bq))))) (.k [0] (.n (.n (.n (.t .none (.n (.o (.k [12,13] (.p ⟨[(2,.s (.ref 2 [])),(3,.s (.ref 3 [])),(4,.v aO),(14,.v aO)],[(2,jq),(3,sS)]⟩ (.cW 0 ⟨[(2,.s (.ref 2 [])),(3,.s (.ref 3 [])),(4,.v aO)],[(2,jq),(3,sS)]⟩) .l)))) (.n (.t .none (.n (.o (.k [4,36] (.p ⟨[(2,.s (.ref 2 [])),(9,.s (.ref 9 [])),(35,.s (.ref 3 [])),(37,.v aO)],[(2,jq),(3,sS),(9,d6)]⟩ (.x 2 ⟨[(2,.s (.ref 2 [])),(9,.s (.ref 9 []))],[(2,jq),(9,d6)]⟩) (.n (.n (.t .none (.o (.n (.d [(0,[1000009],[]),(1,[1000011,4000011],[]),(2,[4000011],[]),(3,[1000011,6000011],[]),(4,[6000011],[]),(5,[],[]),(6,[],[]),(7,[],[]),(8,[],[]),(9,[1000009],[9])]))) .l))))))) .l))))))) Tryz.func104 Tryz.call104 [(2,cG),(3,sS),(6,cG),(7,cG),(9,b1),(11,cG)]
def acP:bg:=⟨127,[.v (.ptr .ey (.st (.pr (.bJ .ey hk) (.pr (.bJ .ey oL) (.pr (.bJ .ey (.ee .ey cG)) (.pr (.bJ .ey hk) .nil)))))),.v Iy,.v aO,.v aO],[cG],EB⟩
theorem apQ:be E acP:=
 .q (aM aqa (aM apH (aM apG (aM apF bq)))) (.k [0,1,2,3] (.n (.n (.t .none (.n (.o (.k [25,26] (.p ⟨[(8,.s (.ref 8 [])),(9,.s (.ref 9 [])),(27,.v aO)],[(8,jq),(9,sS)]⟩ (.x 0 ⟨[(8,.s (.ref 8 [])),(9,.s (.ref 9 []))],[(8,jq),(9,sS)]⟩) (.n (.n (.t (.x [27] ⟨[(8,.s (.ref 8 [])),(9,.s (.ref 9 []))],[(8,jq),(9,sS)]⟩) (.o (.n (.n (.n (.t .none (.d [(0,[500009],[]),(1,[1000012],[]),(2,[],[]),(3,[],[]),(4,[],[]),(5,[],[]),(6,[],[]),(7,[],[]),(8,[],[]),(9,[],[]),(10,[],[]),(11,[],[]),(12,[],[]),(13,[1000057],[57]),(14,[1000009,1000057,1000058],[9,58,500009,500058]),(15,[1000009,1000058],[9,58,500009,500058])]) .l))))) .l))))))) .l)))) Tryz.func127 Tryz.call127 [(8,cG),(12,cG)]
def afv:bg:=⟨85,[.v cG],[aO],wX⟩
theorem RI:be E afv:=
 .q (aM AH (aM Dk bq)) (.k [0] .l) Tryz.func85 Tryz.call85
def acD:bg:=⟨106,[.v cG],[cG],BY⟩
theorem Zp:be E acD:=
 .q (aM Dk bq) (.k [0] .l) Tryz.func106 Tryz.call106 [(2,cG)]
def aeX:bg:=⟨292,[.v d5,.v eR],[d5,eR],JA⟩
theorem aq7:be E aeX:=
 .q (aM m3 bq) (.k [0,1] (.n (.n (.n (.t .none (.n (.o (.p ⟨[(6,.s (.ref 6 [])),(7,.v cx),(8,.v aO)],[(6,dm)]⟩ (.x 0 ⟨[(6,.s (.ref 6 [])),(7,.v cx)],[(6,dm)]⟩) .l))) (.t .none (.z [6] .l) .l)))))) Tryz.func292 Tryz.call292 [(12,dm)]
def aeY:bg:=⟨293,[.v eR],[aO],JC⟩
theorem aq8:be E aeY:=
 .q (aM RC bq) (.k [0] .l) Tryz.func293 Tryz.call293
def aeZ:bg:=⟨294,[.w eR,.v d5],[eR],EP⟩
theorem aq9:be E aeZ:=
 .q bq (.k [1] (.n (.n (.t .none (.d [(0,[0],[]),(1,[],[]),(2,[0],[]),(3,[0],[]),(4,[],[]),(5,[],[]),(6,[0],[]),(7,[],[]),(8,[],[]),(9,[0],[]),(10,[0],[]),(11,[],[]),(12,[],[]),(13,[],[])]) (.n (.t .none (.o (.k [5] (.p ⟨[(0,.w 0),(7,.v cx),(8,.v cx)],[(0,dm)]⟩ (.x 0 ⟨[(0,.w 0),(7,.v cx)],[(0,dm)]⟩) (.t (.cW [7,8] ⟨[(0,.w 0)],[(0,dm)]⟩) (.t .none (.d [(0,[],[]),(1,[],[]),(2,[],[]),(3,[],[]),(4,[],[]),(5,[],[]),(6,[],[]),(7,[],[]),(8,[],[]),(9,[],[]),(10,[],[]),(11,[],[]),(12,[],[]),(13,[0],[]),(14,[],[]),(15,[],[]),(16,[0],[]),(17,[0],[]),(18,[],[]),(19,[],[]),(20,[],[]),(21,[],[])]) .l) .l)))) (.n (.t .none (.n (.o (.k [5,7,84,85] (.p ⟨[(0,.w 0),(9,.v cx),(10,.v cx),(86,.v aO)],[(0,dm)]⟩ (.x 2 ⟨[(0,.w 0),(9,.v cx),(10,.v cx)],[(0,dm)]⟩) .l)))) (.n (.n (.n (.n (.t .none (.n (.o (.k [5,7,140,141] (.p ⟨[(0,.w 0),(9,.v cx),(142,.v aO)],[(0,dm)]⟩ (.x 4 ⟨[(0,.w 0),(9,.v cx)],[(0,dm)]⟩) .l)))) .l))))))))))))) Tryz.func294 Tryz.call294
def aeP:bg:=⟨280,[.v d5,.v d5],[d5,d5],EQ⟩
theorem ZT:be E aeP:=
 .q (aM aq9 (aM aq8 (aM aq7 (aM RF (aM RE (aM Md (aM Mb (aM m3 bq)))))))) (.k [0,1] (.n (.n (.n (.n (.n (.n (.n (.n (.n (.t .none (.n (.o (.k [8,9,11] (.p ⟨[(4,.s (.ref 4 [])),(10,.s (.ref 10 [])),(12,.v aO)],[(4,dm),(10,dm)]⟩ (.x 0 ⟨[(4,.s (.ref 4 [])),(10,.s (.ref 10 []))],[(4,dm),(10,dm)]⟩) .l)))) (.t .none (.z [10] .l) (.t .none (.z [4] .l) .l))))))))))))) Tryz.func280 Tryz.call280 [(47,dm),(59,dm),(5,d5)] [(5,18),(33,32)]
def aeO:bg:=⟨279,[.v d5],[d5],Jz⟩
theorem aqZ:be E aeO:=
 .q (aM ZT (aM RF (aM RE (aM ZQ (aM Md (aM Mc bq)))))) (.k [0] (.n (.n (.n (.o (.p ⟨[(3,.v d5)],[]⟩ .r .l)))))) Tryz.func279 Tryz.call279 [] [(16,11)]
def aey:bg:=⟨257,[.v b1],[b1,aO],Jx⟩
theorem aqO:be E aey:=
 .q (aM aqZ (aM vJ (aM m3 (aM AH bq)))) (.k [0] .l) Tryz.func257 Tryz.call257 [(1,hl),(2,b1)]
def adx:bg:=⟨175,[.v b1,.v b1],[aO],EM⟩
theorem ZA:be E adx:=
 .q (aM Md (aM m3 (aM AH bq))) (.k [0,1] .l) Tryz.func175 Tryz.call175 [(2,hl),(3,hl)]
def adS:bg:=⟨207,[.v cG,.v aO],[oK],Jd⟩
theorem aqp:be E adS:=
 .q (aM aqO (aM Hf (aM ZA (aM Hd (aM Zy bq))))) (.k [0,1] (.n (.n (.t (.x [2] ⟨[(4,.s (.ref 4 [])),(5,.v aO)],[(4,(.optr oK))]⟩) .l (.n (.n (.t .none (.d [(0,[1000007],[]),(1,[],[]),(2,[],[]),(3,[],[]),(4,[],[]),(5,[],[]),(6,[1000007],[]),(7,[1000007],[]),(8,[],[]),(9,[1000006],[]),(10,[],[]),(11,[],[]),(12,[],[]),(13,[1000004],[4])]) .l))))))) Tryz.func207 Tryz.call207 [(2,yX),(4,oK),(6,b1),(7,b1)]
def aet:bg:=⟨252,[.v oK],[aO],Jb⟩
theorem aqK:be E aet:=
 .q (aM Hf bq) (.k [0] .l) Tryz.func252 Tryz.call252 [(1,(.ptr .cD oK))]
def aeW:bg:=⟨291,[.v b1,.v b1],[b1],Jy⟩
theorem aq6:be E aeW:=
 .q (aM RB bq) (.k [0,1] .l) Tryz.func291 Tryz.call291 [(2,hl),(4,b1)]
def aeN:bg:=⟨278,[.v oK,.v aO],[b1,aO,.bool],EC⟩
theorem aqY:be E aeN:=
 .q (aM aq6 (aM ZK (aM Hf (aM ZA (aM Hd (aM Rw (aM AH bq))))))) (.k [0,1] (.n (.n (.n (.n (.t .none (.d [(0,[],[]),(1,[],[]),(2,[1000004],[]),(3,[],[]),(4,[],[]),(5,[],[]),(6,[1000008],[8]),(7,[1000008],[8])]) (.t .none (.d [(0,[1000008],[]),(1,[],[]),(2,[],[]),(3,[],[]),(4,[],[]),(5,[],[]),(6,[],[])]) (.t (.x [2] ⟨[(4,.s (.ref 4 [])),(5,.v aO),(8,.s (.ref 8 []))],[(4,d6),(8,d6)]⟩) .l (.t .none (.d [(0,[1000004],[]),(1,[],[]),(2,[1000008],[]),(3,[],[]),(4,[],[]),(5,[],[]),(6,[],[]),(7,[],[]),(8,[],[]),(9,[],[]),(10,[1000004],[4]),(11,[],[]),(12,[],[])]) .l))))))))) Tryz.func278 Tryz.call278 [(2,(.ptr .cD oK)),(4,b1),(8,b1)]
def aev:bg:=⟨254,[.v oK,.v aO,.v aO],[b1],Jc⟩
theorem aqM:be E aev:=
 .q (aM aqY (aM ZJ (aM Hd (aM RB (aM Rx (aM Rw (aM AH bq))))))) (.k [0,1,2] (.n (.n (.t (.x [3] ⟨[(6,.s (.ref 6 [])),(7,.s (.ref 7 [])),(8,.v aO),(9,.v .bool)],[(6,d6),(7,d6)]⟩) .l (.n (.t (.x [3] ⟨[(6,.s (.ref 6 [])),(7,.s (.ref 7 [])),(10,.v .bool)],[(6,d6),(7,d6)]⟩) .l (.t (.x [3] ⟨[(6,.s (.ref 6 [])),(7,.s (.ref 7 []))],[(6,d6),(7,d6)]⟩) (.n (.t .none (.d [(0,[1000007],[]),(1,[],[]),(2,[],[]),(3,[1000007],[7])]) .l)) (.t (.x [] ⟨[(6,.s (.ref 6 [])),(7,.s (.ref 7 []))],[(6,d6),(7,d6)]⟩) .l .l)))))))) Tryz.func254 Tryz.call254 [(3,(.ptr .cD oK)),(6,b1),(7,b1)]
def adv:bg:=⟨171,[.v b1],[b1],B1⟩
theorem Zz:be E adv:=
 .q (aM Mb (aM vJ bq)) (.k [0] .l) Tryz.func171 Tryz.call171 [(1,hl),(2,b1)] [(6,5)]
def aeu:bg:=⟨253,[.v b1],[aO,.bool],Jv⟩
theorem aqL:be E aeu:=
 .q (aM m3 bq) (.k [0] (.n (.n (.n (.n (.t .none (.n (.o (.k [1,14,15] (.p ⟨[(5,.v cx),(16,.v aO)],[]⟩ (.x 0 ⟨[(5,.v cx)],[]⟩) .l)))) (.t (.cW [] ⟨[],[]⟩) (.o (.t (.x [1,5] ⟨[(29,.v .bool)],[]⟩) .l (.n (.t (.x [5] ⟨[(45,.v .bool)],[]⟩) .l .l)))) .l))))))) Tryz.func253 Tryz.call253 [(1,hl)]
def aew:bg:=⟨255,[.v cx,.v .bool],[cx],zi⟩
theorem ZP:be E aew:=
 .q bq (.k [0,1] .l) Tryz.func255 Tryz.call255
def aex:bg:=⟨256,[.v .bool,.v aO],[cx],Jn⟩
theorem aqN:be E aex:=
 .q (aM ZP bq) (.k [0,1] (.n (.t (.cW [] ⟨[],[]⟩) (.t (.x [] ⟨[(21,.v .bool)],[]⟩) .l .l) .l))) Tryz.func256 Tryz.call256
def adR:bg:=⟨206,[.v oK,.v aO],[cx],EF⟩
theorem ZH:be E adR:=
 .q (aM aqN (aM ZP (aM aqM (aM aqL (aM aqK (aM Zz bq)))))) (.k [0,1] (.n (.n (.n (.n (.t (.x [2] ⟨[(5,.v aO),(8,.v cx)],[]⟩) .l .l)))))) Tryz.func206 Tryz.call206 [(2,(.ptr .cD oK))]
def acQ:bg:=⟨128,[.v cG,.v aO],[cx],Jl⟩
theorem apR:be E acQ:=
 .q (aM RI (aM aqp (aM ZH (aM Zp bq)))) (.k [0,1] (.n (.n (.t (.cW [] ⟨[(2,.s (.ref 2 []))],[(2,jq)]⟩) (.o (.t (.x [] ⟨[(2,.s (.ref 2 [])),(7,.v .bool)],[(2,jq)]⟩) .l .l)) .l)))) Tryz.func128 Tryz.call128
def acR:bg:=⟨129,[.v cx],[aO],Jj⟩
theorem apS:be E acR:=
 .q (aM Rv bq) (.k [0] (.n (.n (.t .none (.o (.t (.x [3,4] ⟨[(10,.v .bool)],[]⟩) .l .l)) .l)))) Tryz.func129 Tryz.call129
def aez:bg:=⟨258,[.v b1,.v b1],[b1,b1,aO],Ju⟩
theorem aqP:be E aez:=
 .q (aM ZT (aM ZM (aM Mc (aM vJ (aM m3 bq))))) (.k [0,1] (.n (.n (.n (.n (.t (.x [2,3] ⟨[(4,.s (.ref 4 [])),(5,.s (.ref 5 [])),(8,.v d5),(9,.v d5)],[(4,d6),(5,d6)]⟩) (.t (.x [7,8,9] ⟨[(4,.s (.ref 4 [])),(5,.s (.ref 5 [])),(32,.v .bool)],[(4,d6),(5,d6)]⟩) .l .l) .l)))))) Tryz.func258 Tryz.call258 [(2,hl),(3,hl),(4,b1),(5,b1)] [(35,34)]
def adT:bg:=⟨208,[.v cG,.v cG,.v aO],[oK],Ja⟩
theorem aqq:be E adT:=
 .q (aM aqP (aM Hf (aM Zz (aM Hd (aM AH bq))))) (.k [0,1,2] (.n (.n (.t .none (.d [(0,[],[]),(1,[],[]),(2,[],[]),(3,[],[]),(4,[],[]),(5,[],[]),(6,[],[]),(7,[],[]),(8,[],[]),(9,[],[]),(10,[],[]),(11,[],[]),(12,[],[]),(13,[1000008],[8]),(14,[1000009],[9]),(15,[1000008],[8]),(16,[1000009],[9]),(17,[],[])]) (.t .none (.d [(0,[],[]),(1,[],[]),(2,[],[]),(3,[],[]),(4,[],[]),(5,[],[]),(6,[],[]),(7,[1000008],[]),(8,[],[]),(9,[],[]),(10,[],[]),(11,[],[]),(12,[],[]),(13,[],[]),(14,[],[]),(15,[1000009],[]),(16,[],[]),(17,[],[]),(18,[],[]),(19,[1000006],[6])]) .l))))) Tryz.func208 Tryz.call208 [(3,yX),(4,yX),(6,oK),(8,b1),(9,b1)]
def acT:bg:=⟨130,[.v cG,.v cG,.v aO],[cx],Jk⟩
theorem apT:be E acT:=
 .q (aM RI (aM aqq (aM ZH (aM Zp bq)))) (.k [0,1,2] (.n (.t .none (.d [(0,[1000003],[]),(1,[],[]),(2,[1000004],[]),(3,[],[]),(4,[1000003],[3]),(5,[1000004],[4])]) (.t (.cW [] ⟨[(3,.s (.ref 3 [])),(4,.s (.ref 4 []))],[(3,jq),(4,jq)]⟩) (.o (.t (.x [] ⟨[(3,.s (.ref 3 [])),(4,.s (.ref 4 [])),(11,.v .bool)],[(3,jq),(4,jq)]⟩) .l .l)) .l)))) Tryz.func130 Tryz.call130
def aff:bg:=⟨57,[.m rn,.v Iy,.v aO],[aO],I3⟩
theorem arp:be E aff:=
 .q (aM Z3 (aM RI (aM Z2 (aM apT (aM apS (aM apR (aM apQ bq))))))) (.k [1,2] (.n (.n (.n (.n (.n (.t .none (.d [(0,[500000],[]),(1,[1000000],[]),(2,[1000000,4000000],[]),(3,[4000000],[]),(4,[],[]),(5,[500000],[]),(6,[1000000],[]),(7,[1000000,6000000],[]),(8,[6000000],[]),(9,[],[]),(10,[],[]),(11,[1000036],[36]),(12,[1000037],[37]),(13,[],[]),(14,[],[]),(15,[],[]),(16,[1000037],[37]),(17,[500037],[]),(18,[4000000,5000000],[]),(19,[1000036,5000000],[0,36,500036]),(20,[6000000,7000000],[]),(21,[1000037,7000000],[0,37,500037])]) (.n (.t .none (.n (.o (.k [8,54,55] (.p ⟨[(0,.s (.ref 0 [])),(56,.v aO)],[(0,rn)]⟩ (.cW 0 ⟨[(0,.s (.ref 0 []))],[(0,rn)]⟩) (.n (.n (.t .none (.o (.n (.n (.n (.d [(0,[500000],[]),(1,[1000000],[]),(2,[1000000,4000000],[]),(3,[4000000],[]),(4,[],[]),(5,[500000],[]),(6,[1000000],[]),(7,[1000000,6000000],[]),(8,[6000000],[]),(9,[],[]),(10,[6000000,7000000],[]),(11,[7000000],[]),(12,[],[]),(13,[500000],[]),(14,[1000000],[]),(15,[1000000,4000000],[]),(16,[4000000],[]),(17,[],[]),(18,[4000000,5000000],[]),(19,[5000000],[]),(20,[],[]),(21,[1000092],[92]),(22,[93,1000092,5000000],[93,1500000,4500000,6500000,7500000]),(23,[],[]),(24,[],[]),(25,[4000000,5000000],[]),(26,[93,5000000],[0,93,500093]),(27,[0,7000000],[0]),(28,[0],[]),(29,[0,7000000],[0])]))))) .l))))))) .l))))))))) Tryz.func57 Tryz.call57 [(7,cG),(37,(.mp cG))]
def acU:bg:=⟨131,[.v hk],[dC],JL⟩
theorem apU:be E acU:=
 .q bq (.k [0] .l) Tryz.func131 Tryz.call131 [(2,dC)]
def afg:bg:=⟨58,[.v (.ptr .ey (.st (.pr (.bJ .ey hk) (.pr (.bJ .ey oL) (.pr (.bJ .ey (.ee .ey cG)) (.pr (.bJ .ey hk) .nil)))))),.v hk],[Ei],I4⟩
theorem arq:be E afg:=
 .q (aM apU bq) (.k [0,1] (.n (.n (.t .none (.n (.o (.k [15] (.p ⟨[(4,.s (.ref 4 [])),(5,.s (.ref 5 [])),(16,.v aO)],[(4,Ix),(5,Ix)]⟩ (.x 0 ⟨[(4,.s (.ref 4 [])),(5,.s (.ref 5 []))],[(4,Ix),(5,Ix)]⟩) (.n (.n (.t .none (.o (.n (.t .none (.d [(0,[1000005,6000005],[]),(1,[6000005],[]),(2,[],[]),(3,[],[]),(4,[],[]),(5,[],[]),(6,[],[]),(7,[],[]),(8,[],[]),(9,[28,6000005,7000005],[28,1500005]),(10,[1000005,6000005],[]),(11,[28,6000005,7000005],[5,28,500028])]) (.t .none (.d [(0,[1000005,8000005],[]),(1,[8000005],[]),(2,[],[]),(3,[],[]),(4,[],[]),(5,[],[]),(6,[],[]),(7,[],[]),(8,[],[]),(9,[39,8000005,9000005],[39,1500005]),(10,[1000005,8000005],[]),(11,[39,8000005,9000005],[5,39,500039])]) .l)))) .l))))))) .l)))) Tryz.func58 Tryz.call58 [(4,Ei),(10,Ei),(5,Ei)]
def acS:bg:=⟨13,[.v kv,.v hk],[BI,aO,aO],wV⟩
theorem Zr:be E acS:=
 .q (aM arq (aM arp (aM aro (aM arn bq)))) (.k [0,1] (.n (.n (.n (.n (.t .none (.n (.o (.k [7,27] (.p ⟨[(4,.s (.ref 4 [])),(9,.s (.ref 9 [])),(28,.v aO)],[(4,Iz),(9,rn)]⟩ (.cW 0 ⟨[(4,.s (.ref 4 [])),(9,.s (.ref 9 []))],[(4,Iz),(9,rn)]⟩) .l)))) (.t .none (.d [(0,[500009],[]),(1,[],[]),(2,[1000009,1000048],[48]),(3,[],[]),(4,[],[]),(5,[],[]),(6,[],[]),(7,[1000004,1000048],[4,48,500048]),(8,[],[]),(9,[],[])]) .l))))))) Tryz.func13 Tryz.call13 [(2,pi),(4,BI)] [(999999,48)]
def adK:bg:=⟨20,[.v hk,.v hk],[.bool],EY⟩
theorem ZE:be E adK:=
 .q bq (.k [0,1] (.n (.n (.t .none (.n (.o (.p ⟨[(5,.v aO)],[]⟩ (.cW 0 ⟨[],[]⟩) .l))) .l)))) Tryz.func20 Tryz.call20
def afb:bg:=⟨53,[.v oL,.v oL],[.bool],On⟩
theorem ark:be E afb:=
 .q bq (.k [0,1] (.n (.n (.t .none (.n (.o (.p ⟨[(5,.v aO)],[]⟩ (.cW 0 ⟨[],[]⟩) .l))) .l)))) Tryz.func53 Tryz.call53
def acF:bg:=⟨11,[],[.bool],EZ⟩
theorem apI:be E acF:=
 .q (aM ark (aM ZW (aM ZE (aM Zr bq)))) .l Tryz.func11 Tryz.call11 [(4,BI)] [(17,11),(17,12),(17,16)]
def adU:bg:=⟨21,[.v aO,.v aO],[aO],w1⟩
theorem He:be E adU:=
 .q bq (.k [0,1] .l) Tryz.func21 Tryz.call21
def ae8:bg:=⟨50,[.v oL,.v aO],[cx],EW⟩
theorem ZV:be E ae8:=
 .q (aM He bq) (.k [0,1] (.n (.n (.t (.x [] ⟨[(5,.v cx)],[]⟩) .l .l)))) Tryz.func50 Tryz.call50
def afh:bg:=⟨67,[.v cx],[.bool],Ce⟩
theorem RG:be E afh:=
 .q bq (.k [0] .l) Tryz.func67 Tryz.call67
def ado:bg:=⟨164,[.v cx],[cx],Om⟩
theorem ap7:be E ado:=
 .q (aM ZW bq) (.k [0] .l) Tryz.func164 Tryz.call164
def afG:bg:=⟨99,[.v cx,.v aO],[cx],JT⟩
theorem arz:be E afG:=
 .q (aM RG (aM He (aM ap7 bq))) (.k [0,1] .l) Tryz.func99 Tryz.call99
def ae7:bg:=⟨35,[.v oL,.v aO,.v aO,.v aO],[lS],EU⟩
theorem ZU:be E ae7:=
 .q (aM arz (aM ZV bq)) (.k [0,1,2,3] (.n (.n (.t .none (.n (.o (.p ⟨[(8,.s (.ref 8 [])),(9,.s (.ref 9 [])),(10,.v aO)],[(8,ef),(9,ef)]⟩ (.x 0 ⟨[(8,.s (.ref 8 [])),(9,.s (.ref 9 []))],[(8,ef),(9,ef)]⟩) (.n (.t .none (.o (.t .none (.n (.o (.k [10] (.p ⟨[(8,.s (.ref 8 [])),(9,.s (.ref 9 [])),(11,.v aO)],[(8,ef),(9,ef)]⟩ (.x 2 ⟨[(8,.s (.ref 8 [])),(9,.s (.ref 9 []))],[(8,ef),(9,ef)]⟩) (.n (.t (.x [11] ⟨[(8,.s (.ref 8 [])),(9,.s (.ref 9 []))],[(8,ef),(9,ef)]⟩) (.o (.n (.n (.t .none (.n (.d [(0,[1000009,10000009],[]),(1,[10000009],[]),(2,[],[]),(3,[],[]),(4,[],[]),(5,[1000050],[50]),(6,[51,1000050,10000009,11000009],[51,1500009]),(7,[1000009,10000009],[]),(8,[51,10000009,11000009],[9,51,500051])])) .l)))) .l)))))) .l)) .l))))) .l)))) Tryz.func35 Tryz.call35 [(8,lS),(16,lS),(9,lS)]
def acV:bg:=⟨135,[.v oL],[.bool],Ka⟩
theorem apV:be E acV:=
 .q (aM RG bq) (.k [0] (.n (.t .none (.n (.o (.p ⟨[(3,.v aO)],[]⟩ (.cW 0 ⟨[],[]⟩) .l))) .l))) Tryz.func135 Tryz.call135
def afi:bg:=⟨68,[.v kv],[aO],w4⟩
theorem Me:be E afi:=
 .q (aM apV bq) (.k [0] (.n (.t (.cW [1] ⟨[],[]⟩) .l (.n (.t (.cW [1] ⟨[],[]⟩) .l (.t .none (.n (.o (.k [1] (.p ⟨[(4,.v aO)],[]⟩ (.cW 0 ⟨[],[]⟩) .l)))) (.t .none (.n (.o (.k [1] (.p ⟨[(5,.v aO)],[]⟩ (.cW 2 ⟨[],[]⟩) (.n (.t .none (.o (.n (.o (.k [5] (.p ⟨[(6,.v aO)],[]⟩ (.cW 4 ⟨[],[]⟩) (.n (.t (.cW [6] ⟨[],[]⟩) .l .l))))))) .l)))))) .l))))))) Tryz.func68 Tryz.call68 [(1,pi)]
def aeq:bg:=⟨25,[.v kv,.v aO,.v aO],[cx],zq⟩
theorem aqH:be E aeq:=
 .q (aM Me bq) (.k [0,1,2] (.n (.t (.cW [3] ⟨[],[]⟩) .l (.t .none (.n (.o (.k [3] (.p ⟨[(7,.v aO)],[]⟩ (.cW 0 ⟨[],[]⟩) .l)))) .l)))) Tryz.func25 Tryz.call25 [(3,pi)]
def afz:bg:=⟨89,[.v cx],[.bool],J7⟩
theorem arx:be E afz:=
 .q bq (.k [0] .l) Tryz.func89 Tryz.call89
def aeh:bg:=⟨24,[.v cx],[cG],J8⟩
theorem aqy:be E aeh:=
 .q (aM arx (aM Hg (aM Mf (aM RG bq)))) (.k [0] (.n (.n (.n (.n (.t (.x [] ⟨[(2,.s (.ref 2 [])),(4,.v cx),(5,.v aO)],[(2,jq)]⟩) .l .l)))))) Tryz.func24 Tryz.call24 [(2,cG)] [(30,29)]
def ae2:bg:=⟨30,[.v cG],[cG],J3⟩
theorem arc:be E ae2:=
 .q (aM RN (aM RJ (aM Hg bq))) (.k [0] (.n (.n (.n (.t .none (.d [(0,[1000001,4000001],[]),(1,[4000001],[]),(2,[],[]),(3,[1000001,6000001],[]),(4,[6000001],[]),(5,[],[]),(6,[1000002],[2])]) .l))))) Tryz.func30 Tryz.call30 [(2,cG)]
def aeV:bg:=⟨29,[.v (.bJ .ey cG)],[cG],J5⟩
theorem aq5:be E aeV:=
 .q (aM RM (aM RL (aM RK (aM RJ (aM Hg (aM Mf bq)))))) (.k [0] (.n (.n (.t .none (.n (.o (.p ⟨[(2,.s (.ref 2 [])),(3,.s (.ref 3 [])),(4,.v aO),(5,.v aO)],[(2,jq),(3,d6)]⟩ (.cW 0 ⟨[(2,.s (.ref 2 [])),(3,.s (.ref 3 [])),(4,.v aO)],[(2,jq),(3,d6)]⟩) (.n (.t (.cW [5] ⟨[(2,.s (.ref 2 [])),(3,.s (.ref 3 [])),(4,.v aO)],[(2,jq),(3,d6)]⟩) (.o (.n (.n (.n (.o (.n (.t .none (.d [(0,[1000006,4000006],[]),(1,[4000006],[]),(2,[1000006,6000006],[]),(3,[6000006],[]),(4,[1000003],[3]),(5,[],[])]) (.n (.t .none (.d [(0,[1000003],[]),(1,[1000006,4000006],[]),(2,[4000006],[]),(3,[1000006,6000006],[]),(4,[6000006],[]),(5,[],[]),(6,[],[]),(7,[],[]),(8,[],[]),(9,[1000003],[3])]) (.d [(0,[1000003],[]),(1,[],[]),(2,[1000006,6000006],[]),(3,[6000006],[]),(4,[],[]),(5,[],[]),(6,[1000006,4000006],[]),(7,[4000006],[]),(8,[],[]),(9,[1000006,6000006],[]),(10,[6000006],[]),(11,[1000003],[3]),(12,[],[])])))))))))) .l))))) .l)))) Tryz.func29 Tryz.call29 [(2,cG),(3,b1),(6,cG)]
def acI:bg:=⟨120,[.v kv,.v aO,.v aO],[.bool],E8⟩
theorem apK:be E acI:=
 .q bq (.k [0,1,2] (.n (.t (.cW [3] ⟨[],[]⟩) .l (.t .none (.n (.o (.k [3] (.p ⟨[(7,.v aO)],[]⟩ (.cW 0 ⟨[],[]⟩) .l)))) .l)))) Tryz.func120 Tryz.call120 [(3,pi)]
def afc:bg:=⟨54,[.v oL,.v aO,.v aO],[lS],JS⟩
theorem arl:be E afc:=
 .q (aM Z1 (aM ZU (aM arc (aM aq5 (aM aqH (aM aqy (aM He (aM apK (aM Zq bq))))))))) (.k [0,1,2] (.n (.n (.n (.t .none (.n (.o (.p ⟨[(6,.s (.ref 6 [])),(7,.s (.ref 7 [])),(8,.s (.ref 8 [])),(9,.v aO)],[(6,ef),(7,ef),(8,ef)]⟩ (.x 0 ⟨[(6,.s (.ref 6 [])),(8,.s (.ref 8 []))],[(6,ef),(8,ef)]⟩) (.n (.t .none (.o (.t .none (.n (.o (.k [9] (.p ⟨[(6,.s (.ref 6 [])),(7,.s (.ref 7 [])),(8,.s (.ref 8 [])),(10,.v aO)],[(6,ef),(7,ef),(8,ef)]⟩ (.x 2 ⟨[(6,.s (.ref 6 [])),(7,.s (.ref 7 [])),(8,.s (.ref 8 []))],[(6,ef),(7,ef),(8,ef)]⟩) (.n (.t (.x [10] ⟨[(6,.s (.ref 6 [])),(7,.s (.ref 7 [])),(8,.s (.ref 8 []))],[(6,ef),(7,ef),(8,ef)]⟩) (.o (.n (.t .none (.n (.t .none (.n (.o (.p ⟨[(6,.s (.ref 6 [])),(7,.s (.ref 7 [])),(8,.s (.ref 8 [])),(11,.s (.ref 11 [])),(12,.v aO)],[(6,ef),(7,ef),(8,ef),(11,sS)]⟩ (.x 4 ⟨[(6,.s (.ref 6 [])),(7,.s (.ref 7 [])),(8,.s (.ref 8 [])),(11,.s (.ref 11 []))],[(6,ef),(7,ef),(8,ef),(11,sS)]⟩) (.n (.t (.x [12] ⟨[(6,.s (.ref 6 [])),(7,.s (.ref 7 [])),(8,.s (.ref 8 [])),(11,.s (.ref 11 []))],[(6,ef),(7,ef),(8,ef),(11,sS)]⟩) .l .l))))) (.n (.d [(0,[1000008,10000008],[]),(1,[10000008],[]),(2,[500011],[]),(3,[1000011],[]),(4,[],[]),(5,[1000070],[70]),(6,[71,1000070,10000008,11000008],[71,1500008]),(7,[1000008,10000008],[]),(8,[71,10000008,11000008],[8,71,500071])])))) (.n (.t .none (.n (.d [(0,[1000008,10000008],[]),(1,[10000008],[]),(2,[7,1000007],[]),(3,[],[]),(4,[],[]),(5,[7],[]),(6,[1000089],[89]),(7,[90,1000089,10000008,11000008],[90,1500008]),(8,[1000008,10000008],[]),(9,[90,10000008,11000008],[8,90,500090])])) .l))))) .l)))))) .l)) .l))))) .l))))) Tryz.func54 Tryz.call54 [(6,lS),(7,lS),(22,lS),(8,lS)]
def ae9:bg:=⟨51,[.v oL,.v aO],[hy],EV⟩
theorem arj:be E ae9:=
 .q (aM ZV (aM He bq)) (.k [0,1] (.n (.n (.t .none (.n (.o (.p ⟨[(5,.v hy),(6,.v aO)],[]⟩ (.x 0 ⟨[(5,.v hy)],[]⟩) (.n (.t .none (.o (.n (.d [(0,[1000023],[23]),(1,[],[]),(2,[],[]),(3,[],[]),(4,[1000023,1000027],[23,27,500023,500027]),(5,[],[]),(6,[1000029],[29]),(7,[1000027,1000029,1000030],[27,30,500027,500030]),(8,[],[]),(9,[],[]),(10,[],[]),(11,[1000030,1000034],[30,34,500030,500034]),(12,[1000034],[34,500034])]))) .l))))) .l)))) Tryz.func51 Tryz.call51 [(5,hy)] [(5,8),(5,34)]
def acH:bg:=⟨12,[.v oL,.v aO,.v aO,.v .bool],[nj,hy],JW⟩
theorem apJ:be E acH:=
 .q (aM arl (aM arj (aM ZU (aM He bq)))) (.k [0,2,3] .l) Tryz.func12 Tryz.call12 [(8,nj)] [(999999,16),(999999,24)]
def afj:bg:=⟨69,[.v kv],[fg],E7⟩
theorem ZX:be E afj:=
 .q (aM Me bq) (.k [0] (.n (.n (.n (.t .none (.n (.o (.k [1] (.p ⟨[(3,.s (.ref 3 [])),(4,.v aO)],[(3,fg)]⟩ (.x 0 ⟨[(3,.s (.ref 3 []))],[(3,fg)]⟩) (.n (.t .none (.o (.n (.o (.k [4] (.p ⟨[(3,.s (.ref 3 [])),(5,.v aO)],[(3,fg)]⟩ (.x 2 ⟨[(3,.s (.ref 3 []))],[(3,fg)]⟩) (.n (.t .none (.o (.d [(0,[500003],[]),(1,[],[]),(2,[],[]),(3,[],[]),(4,[],[]),(5,[],[]),(6,[],[]),(7,[],[]),(8,[],[]),(9,[],[]),(10,[],[]),(11,[],[]),(12,[],[]),(13,[1000043],[43]),(14,[1000003,1000043,1000044],[3,44,500003,500044]),(15,[1000003,1000044],[3,44,500003,500044])])) .l))))))) .l)))))) .l))))) Tryz.func69 Tryz.call69 [(1,pi),(3,fg),(2,fg)]
def afk:bg:=⟨70,[.v aO,.v aO,.v (.bJ .ey ni)],[lS],Kc⟩
theorem ars:be E afk:=
 .q bq (.k [0,1,2] (.n (.n (.n (.t .none (.n (.o (.p ⟨[(6,.s (.ref 6 [])),(7,.s (.ref 7 [])),(8,.s (.ref 8 [])),(9,.v aO)],[(6,ef),(7,ef),(8,dC)]⟩ (.x 0 ⟨[(6,.s (.ref 6 [])),(7,.s (.ref 7 [])),(8,.s (.ref 8 []))],[(6,ef),(7,ef),(8,dC)]⟩) (.n (.t .none (.o (.d [(0,[500008],[]),(1,[],[]),(2,[],[]),(3,[],[]),(4,[],[]),(5,[],[]),(6,[],[]),(7,[],[]),(8,[],[]),(9,[],[]),(10,[],[]),(11,[],[]),(12,[],[]),(13,[],[]),(14,[],[]),(15,[],[]),(16,[8,1000008],[]),(17,[8],[8])])) .l))))) (.t .none (.n (.o (.p ⟨[(6,.s (.ref 6 [])),(7,.s (.ref 7 [])),(8,.s (.ref 8 [])),(10,.v aO)],[(6,ef),(7,ef),(8,dC)]⟩ (.x 2 ⟨[(6,.s (.ref 6 [])),(7,.s (.ref 7 []))],[(6,ef),(7,ef)]⟩) (.n (.t .none (.o (.t .none (.n (.o (.k [10] (.p ⟨[(6,.s (.ref 6 [])),(7,.s (.ref 7 [])),(8,.s (.ref 8 [])),(11,.v aO)],[(6,ef),(7,ef),(8,dC)]⟩ (.x 4 ⟨[(6,.s (.ref 6 [])),(7,.s (.ref 7 [])),(8,.s (.ref 8 []))],[(6,ef),(7,ef),(8,dC)]⟩) (.n (.t (.x [11] ⟨[(6,.s (.ref 6 [])),(7,.s (.ref 7 [])),(8,.s (.ref 8 []))],[(6,ef),(7,ef),(8,dC)]⟩) (.o (.n (.n (.t .none (.n (.d [(0,[1000007,10000007],[]),(1,[10000007],[]),(2,[],[]),(3,[],[]),(4,[],[]),(5,[],[]),(6,[],[]),(7,[],[]),(8,[1000078],[78]),(9,[79,1000078,10000007,11000007],[79,1500007]),(10,[1000007,10000007],[]),(11,[79,10000007,11000007],[7,79,500079])])) .l)))) .l)))))) .l)) .l))))) .l)))))) Tryz.func70 Tryz.call70 [(6,lS),(16,lS),(7,lS),(20,dC)]
def adk:bg:=⟨16,[.v kv],[nj,aO],Kb⟩
theorem ap5:be E adk:=
 .q (aM ars (aM ZX (aM Me bq))) (.k [0] (.n (.n (.n (.n (.t .none (.n (.o (.k [1,6] (.p ⟨[(2,.s (.ref 2 [])),(5,.s (.ref 5 [])),(7,.v aO)],[(2,(.optr nj)),(5,fg)]⟩ (.x 0 ⟨[(2,.s (.ref 2 [])),(5,.s (.ref 5 []))],[(2,(.optr nj)),(5,fg)]⟩) (.n (.t (.x [7] ⟨[(2,.s (.ref 2 [])),(5,.s (.ref 5 []))],[(2,(.optr nj)),(5,fg)]⟩) .l .l)))))) .l)))))) Tryz.func16 Tryz.call16 [(1,pi),(2,nj),(6,(.bJ .cD ni)),(5,fg)] [(6,15),(999999,45)]
def afl:bg:=⟨71,[.v aO],[hx],Fc⟩
theorem ZY:be E afl:=
 .q bq (.k [0] (.n (.n (.t .none (.n (.o (.p ⟨[(3,.s (.ref 3 [])),(4,.v aO)],[(3,hx)]⟩ (.x 0 ⟨[(3,.s (.ref 3 []))],[(3,hx)]⟩) .l))) .l)))) Tryz.func71 Tryz.call71 [(3,hx),(12,jr),(13,hx)]
def afm:bg:=⟨72,[.v (.bJ .ey (.bJ .ey .bool))],[kf],E9⟩
theorem ZZ:be E afm:=
 .q bq (.k [0] (.n (.n (.t .none (.n (.o (.p ⟨[(2,.s (.ref 2 [])),(3,.s (.ref 3 [])),(4,.v aO)],[(2,(.optr kf)),(3,(.optr kf))]⟩ (.x 0 ⟨[(2,.s (.ref 2 [])),(3,.s (.ref 3 []))],[(2,(.optr kf)),(3,(.optr kf))]⟩) (.n (.t .none (.o (.n (.t .none (.n (.o (.k [4] (.p ⟨[(2,.s (.ref 2 [])),(3,.s (.ref 3 [])),(5,.s (.ref 5 [])),(6,.v aO)],[(2,(.optr kf)),(3,(.optr kf)),(5,dC)]⟩ (.x 2 ⟨[(2,.s (.ref 2 [])),(3,.s (.ref 3 [])),(5,.s (.ref 5 []))],[(2,(.optr kf)),(3,(.optr kf)),(5,dC)]⟩) (.n (.t (.x [6] ⟨[(2,.s (.ref 2 [])),(3,.s (.ref 3 [])),(5,.s (.ref 5 []))],[(2,(.optr kf)),(3,(.optr kf)),(5,dC)]⟩) (.o (.t (.x [] ⟨[(2,.s (.ref 2 [])),(3,.s (.ref 3 [])),(5,.s (.ref 5 [])),(39,.v .bool)],[(2,(.optr kf)),(3,(.optr kf)),(5,dC)]⟩) .l .l)) .l)))))) (.z [5] .l)))) .l))))) .l)))) Tryz.func72 Tryz.call72 [(2,kf),(3,kf),(5,dC)]
def adt:bg:=⟨17,[.v kv],[g8,aO],Kf⟩
theorem ap9:be E adt:=
 .q (aM ZZ (aM ZY (aM ZX (aM Me bq)))) (.k [0] (.n (.n (.n (.n (.n (.t .none (.n (.o (.k [6] (.p ⟨[(2,.s (.ref 2 [])),(5,.s (.ref 5 [])),(7,.v aO)],[(2,(.optr g8)),(5,hx)]⟩ (.x 0 ⟨[(2,.s (.ref 2 [])),(5,.s (.ref 5 []))],[(2,(.optr g8)),(5,hx)]⟩) (.n (.t .none (.o (.d [(0,[500005],[]),(1,[],[]),(2,[],[]),(3,[],[]),(4,[],[]),(5,[],[]),(6,[5,1000005],[]),(7,[5],[]),(8,[],[]),(9,[],[]),(10,[],[]),(11,[],[]),(12,[],[]),(13,[5],[]),(14,[5],[5])])) .l)))))) .l))))))) Tryz.func17 Tryz.call17 [(1,pi),(2,g8),(6,(.bJ .cD ni))] [(6,24),(999999,46)]
def acW:bg:=⟨136,[.v hk],[.bool],JU⟩
theorem apW:be E acW:=
 .q bq (.k [0] (.n (.t .none (.n (.o (.p ⟨[(3,.v aO)],[]⟩ (.cW 0 ⟨[],[]⟩) .l))) .l))) Tryz.func136 Tryz.call136
def acX:bg:=⟨137,[.v hk,.v aO],[.bool],EX⟩
theorem Zs:be E acX:=
 .q bq (.k [0,1] (.n (.t .none (.n (.o (.p ⟨[(5,.v aO)],[]⟩ (.cW 0 ⟨[],[]⟩) .l))) .l))) Tryz.func137 Tryz.call137
def afn:bg:=⟨73,[.v mE],[aO],Cf⟩
theorem RH:be E afn:=
 .q (aM Zs (aM apW bq)) (.k [0] (.n (.n (.n (.t .none (.n (.o (.k [1,3] (.p ⟨[(4,.v aO)],[]⟩ (.cW 0 ⟨[],[]⟩) (.n (.t .none (.o (.n (.n (.o (.k [4] (.p ⟨[(5,.v aO)],[]⟩ (.cW 2 ⟨[],[]⟩) (.n (.t (.cW [5] ⟨[],[]⟩) .l .l)))))))) .l)))))) .l))))) Tryz.func73 Tryz.call73 [(1,lT)]
def afo:bg:=⟨74,[.v hk,.v aO],[.bool],JV⟩
theorem art:be E afo:=
 .q bq (.k [0,1] (.n (.n (.n (.t .none (.n (.o (.p ⟨[(5,.s (.ref 5 [])),(6,.v aO)],[(5,jr)]⟩ (.cW 0 ⟨[],[]⟩) (.n (.t (.cW [6] ⟨[(5,.s (.ref 5 []))],[(5,jr)]⟩) (.o (.t (.cW [] ⟨[(5,.s (.ref 5 []))],[(5,jr)]⟩) .l .l)) .l))))) .l))))) Tryz.func74 Tryz.call74 [(12,jr)]
def acY:bg:=⟨138,[.v hk,.v aO],[.bool],Kd⟩
theorem apX:be E acY:=
 .q bq (.k [0,1] (.n (.t .none (.n (.o (.p ⟨[(5,.v aO)],[]⟩ (.cW 0 ⟨[],[]⟩) (.n (.t (.cW [5] ⟨[],[]⟩) .l .l))))) .l))) Tryz.func138 Tryz.call138
def acZ:bg:=⟨139,[.v hk],[.bool],Ke⟩
theorem apY:be E acZ:=
 .q (aM Zs bq) (.k [0] (.n (.t .none (.n (.o (.p ⟨[(3,.v aO)],[]⟩ (.cW 0 ⟨[],[]⟩) .l))) .l))) Tryz.func139 Tryz.call139
def ac0:bg:=⟨140,[.v mE],[hx],Fb⟩
theorem Zt:be E ac0:=
 .q bq (.k [0] (.n (.n (.n (.t .none (.n (.o (.k [1,3] (.p ⟨[(4,.s (.ref 4 [])),(5,.v aO)],[(4,hx)]⟩ (.x 0 ⟨[(4,.s (.ref 4 []))],[(4,hx)]⟩) (.n (.t .none (.o (.n (.t .none (.n (.o (.k [5] (.p ⟨[(4,.s (.ref 4 [])),(6,.s (.ref 6 [])),(7,.v aO)],[(4,hx),(6,jr)]⟩ (.x 2 ⟨[(4,.s (.ref 4 [])),(6,.s (.ref 6 []))],[(4,hx),(6,jr)]⟩) .l)))) .l))) .l)))))) .l))))) Tryz.func140 Tryz.call140 [(1,lT),(4,hx),(17,jr),(40,hx)]
def afp:bg:=⟨75,[.v mE,.v hk],[g8,aO],Kg⟩
theorem aru:be E afp:=
 .q (aM RH (aM ZZ (aM ZY (aM Zt (aM apY (aM apX bq)))))) (.k [0,1] (.n (.n (.n (.n (.n (.n (.t .none (.n (.o (.k [7] (.p ⟨[(4,.s (.ref 4 [])),(8,.s (.ref 8 [])),(9,.v aO)],[(4,(.optr g8)),(8,hx)]⟩ (.x 0 ⟨[(4,.s (.ref 4 [])),(8,.s (.ref 8 []))],[(4,(.optr g8)),(8,hx)]⟩) (.n (.t .none (.o (.n (.o (.k [9] (.p ⟨[(4,.s (.ref 4 [])),(8,.s (.ref 8 [])),(10,.v aO)],[(4,(.optr g8)),(8,hx)]⟩ (.x 2 ⟨[(4,.s (.ref 4 [])),(8,.s (.ref 8 []))],[(4,(.optr g8)),(8,hx)]⟩) (.n (.t .none (.o (.d [(0,[500008],[]),(1,[],[]),(2,[8,1000008],[]),(3,[8],[]),(4,[],[]),(5,[],[]),(6,[],[]),(7,[],[]),(8,[],[]),(9,[],[]),(10,[],[]),(11,[],[]),(12,[],[]),(13,[],[]),(14,[],[]),(15,[],[]),(16,[],[]),(17,[],[]),(18,[8],[]),(19,[8],[8])])) .l))))))) .l)))))) .l)))))))) Tryz.func75 Tryz.call75 [(2,lT),(4,g8),(7,(.bJ .cD (.bJ .cD .bool)))] [(7,28),(999999,64)]
def adz:bg:=⟨18,[.v mE,.v hk],[g8,aO],Fa⟩
theorem aqb:be E adz:=
 .q (aM aru (aM art (aM RH bq))) (.k [0,1] .l) Tryz.func18 Tryz.call18 [(2,lT),(4,g8)]
def afq:bg:=⟨76,[.v mE],[wK],Kh⟩
theorem arv:be E afq:=
 .q (aM Zt bq) (.k [0] (.n (.t .none (.d [(0,[],[]),(1,[1000004],[4]),(2,[],[]),(3,[],[]),(4,[],[]),(5,[1000008],[8]),(6,[1000004,1000008,1000009],[4,8,9,500004,500008]),(7,[1000009,1000010],[9,10,500009]),(8,[1000002,1000010],[2,10,500002,500010])]) .l))) Tryz.func76 Tryz.call76 [(1,lT),(8,jr)]
def afr:bg:=⟨77,[.v (.ptr .ey (.st (.pr (.bJ .ey (.bJ .ey .bool)) (.pr (.bJ .ey .bool) .nil)))),.v aO],[dC],Ff⟩
theorem Z0:be E afr:=
 .q bq (.k [0,1] (.n (.n (.t .none (.n (.o (.p ⟨[(5,.s (.ref 5 [])),(6,.v aO)],[(5,dC)]⟩ (.x 0 ⟨[(5,.s (.ref 5 []))],[(5,dC)]⟩) (.n (.t (.x [6] ⟨[(5,.s (.ref 5 []))],[(5,dC)]⟩) (.o (.t (.x [] ⟨[(5,.s (.ref 5 [])),(35,.v .bool)],[(5,dC)]⟩) .l .l)) .l))))) .l)))) Tryz.func77 Tryz.call77 [(5,dC)]
def afs:bg:=⟨78,[.m wK,.v aO],[],Fe⟩
theorem arw:be E afs:=
 .q (aM Z0 bq) (.k [1] (.n (.t .none (.n (.o (.k [4] (.p ⟨[(0,.s (.ref 0 [])),(5,.v aO)],[(0,wK)]⟩ (.x 0 ⟨[(0,.s (.ref 0 []))],[(0,wK)]⟩) (.n (.t .none (.o (.n (.o (.k [5] (.p ⟨[(0,.s (.ref 0 [])),(6,.v aO)],[(0,wK)]⟩ (.x 2 ⟨[(0,.s (.ref 0 []))],[(0,wK)]⟩) (.n (.t (.x [6] ⟨[(0,.s (.ref 0 []))],[(0,wK)]⟩) (.o (.n (.t .none (.d [(0,[500000],[]),(1,[1000000],[]),(2,[1000000,2000000],[]),(3,[2000000],[]),(4,[],[]),(5,[],[]),(6,[],[]),(7,[],[]),(8,[2000000,3000000],[]),(9,[3000000],[]),(10,[],[]),(11,[],[]),(12,[],[]),(13,[],[]),(14,[3000000],[]),(15,[3000000],[0])]) .l))) .l))))))) .l)))))) .l))) Tryz.func78 Tryz.call78 [(4,hy)] [(4,9)]
def adB:bg:=⟨19,[.v mE],[(.osl hy),aO],Ki⟩
theorem aqd:be E adB:=
 .q (aM arw (aM Z0 (aM arv (aM RH bq)))) (.k [0] (.n (.n (.n (.n (.t .none (.n (.o (.k [1] (.p ⟨[(5,.s (.ref 5 [])),(6,.s (.ref 6 [])),(7,.v aO)],[(5,wK),(6,(.osl hy))]⟩ (.x 0 ⟨[(6,.s (.ref 6 []))],[(6,(.osl hy))]⟩) .l)))) .l)))))) Tryz.func19 Tryz.call19 [(1,lT),(6,(.osl hy)),(2,(.osl hy))] [(29,28)]
def Bt:bg:=⟨4,[.v oL,.v aO,.v aO],[.bool],Oo⟩
theorem ari:be E Bt:=
 .q (aM ZE (aM aqd (aM aqb (aM ap9 (aM ap5 (aM Zr (aM apJ (aM apI bq)))))))) (.k [0,1,2] (.n (.n (.n (.n (.n (.n (.n (.n (.n (.t .none (.n (.o (.k [18] (.p ⟨[(9,.s (.ref 9 [])),(20,.v aO)],[(9,Iz)]⟩ (.cW 0 ⟨[],[]⟩) (.n (.t (.cW [20] ⟨[(9,.s (.ref 9 []))],[(9,Iz)]⟩) (.o (.t .none (.d [(0,[1000009,4000009],[]),(1,[4000009],[]),(2,[],[]),(3,[],[]),(4,[],[]),(5,[],[]),(6,[],[]),(7,[1000009,4000009],[]),(8,[4000009],[]),(9,[],[]),(10,[],[]),(11,[],[]),(12,[1000009,4000009],[]),(13,[4000009],[]),(14,[],[]),(15,[],[]),(16,[],[]),(17,[],[]),(18,[],[]),(19,[],[]),(20,[],[]),(21,[1000009,4000009],[]),(22,[4000009],[]),(23,[],[]),(24,[],[]),(25,[],[]),(26,[],[]),(27,[1000009,6000009],[]),(28,[6000009],[]),(29,[],[]),(30,[],[]),(31,[],[]),(32,[],[]),(33,[1000009,6000009],[]),(34,[6000009],[]),(35,[1000009,4000009],[]),(36,[4000009],[]),(37,[],[]),(38,[],[]),(39,[],[]),(40,[1000009,4000009],[]),(41,[4000009],[]),(42,[],[]),(43,[],[]),(44,[],[]),(45,[],[]),(46,[],[]),(47,[],[]),(48,[],[]),(49,[],[]),(50,[],[]),(51,[],[]),(52,[],[]),(53,[],[])]) .l)) .l)))))) .l))))))))))) Tryz.func4 Tryz.call4 [(7,nj),(9,BI),(12,nj),(14,g8),(16,g8),(18,(.bJ .cD hy))] [(18,57000)]
end
end Go.lP
end
