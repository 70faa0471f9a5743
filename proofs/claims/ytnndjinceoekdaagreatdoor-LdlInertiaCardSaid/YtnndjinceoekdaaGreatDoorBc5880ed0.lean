/-
  Parts of the proof: Fw1, Fw2, Fw3, Fw4, Fw5, Fw6, Fw7, Fw8, Fw40, Fw41, Fw9, Fw10, Fw11, Fw12, Fw13, Fw14, Fw15, Fw16, Fw17, Fw18, Fw19, Fw20: the framework (Fw), pure forms (Dn), plain laws (Pl, Th), calls of functions (Ok).
-/
import Derived.Laws.AppendOwn
import Derived.ArgAppend
import Derived.Laws.IdiomCopy
import Derived.Laws.Cells
import Derived.Laws.MakeOwn
import Derived.Calls
import Derived.Orders
import Derived.Laws.Entries
import Derived.Maps.RangeRun

set_option linter.all false
set_option maxHeartbeats 1000000
open Go renaming TypeId->bF,Operand->bM,World->bC,MapEntry->ch,Exit->b5,IntKind->cr,undef->bV,Program->bY,Field->akr,sizeOf->akT,typeInfo->akA,run_underlying->b7,Oper->bR,execOp->bN,eqGuard->ak6,binOp->akf,resolve->akM,builtin->ak7,asIntOf->ali,madeCells->anw,zeroValue->akl,newRow->akN,Code->cq
open _root_ renaming Nat->X,Array->bT,Option->bv,DecidableEq->ans,List->bm,Int->Z,Bool->bA,Unit->bt,rfl->bn,and_true->ca,False->b4,true_and->alz,if_true->cj,congrArg->b6,cond_false->bP,cond_true->bG,beq_self_eq_true->akB,decide_eq_true->akb,decide_eq_false->akC,decide_eq_true_eq->akt,dif_pos->alm
open Option renaming some->Y,none->bo,isSome_none->anB,isSome_some->amQ
open Bool renaming true->bq,false->bp
open Go.World renaming cell?_of_block->aov,frozen?_of_block->aow,cell?->alk,frozen?->amP,setCells->amV,setCell->aoH,cell?_setCells_in->ami,cell?_setCells_out->amW,frozen?_setCells->anG
open Go.MapEntry renaming mk->amJ
open Go.Value renaming oneCell'->akp,int->akg,map->alE,agg->aoI
open List renaming mem_cons_of_mem->alx,mem_flatten->aly,mem_of_getElem?->al3,getElem?_take->amK,count_cons->amL,take_take->aox,all_eq_true->alg,getElem?_eq_some_iff->akU,drop_drop->al5,append_eq_nil_iff->anu,replicate->bI,range->bJ,pairwise_cons->amc,filter_eq_self->alB,map_congr_left->aks,filter_map->anA,getElem?_inj->amR,getElem?_toArray->anE,map_toArray->amT,foldlM_cons->aoD,any_eq_true->aoE,getElem?_eq_getElem->bX,mem_append_right->amX,take_append_drop->amj,getElem_mem->b3,flatten_cons->aln
open Go.Value.pointer renaming injEq->ale
open Go.Addr.mk renaming injEq->akq
open Go.Value.slice renaming injEq->aka
open Iff renaming rfl->al4
open Nat renaming sub_self->alf,min_self->aoy,beq->bH,eq_of_beq_eq_true->akR,ble->b2,add_comm->al9,blt->b9,beq_refl->ame,div_lt_iff_lt_mul->amU,div_add_mod->amf
open Option.some renaming inj->akS
open ByteArray renaming empty->amM
open Go.Sem renaming run_bind->bW,run_pure->ct
open Go.Result renaming andThen_ok->b1
open Go.Addr renaming add_lit->ak5
open Go.Oper renaming wp->ake
open BitVec renaming ofInt->cf
open Decidable renaming decide->br
open Go.Op renaming equalIn->alh,equal->al6,maxDepth->al7,unary->anF
open Go.Builtin renaming len_->ant,delete_->anD,append_->amg,firstCells->aoF,lenOf->aoG,zeroCells->amh
open Go.Instr renaming loadAt->aoz,sureAddr->alA,sliceBounds->al8,sliceBound->anv,fill->aoA,box->amN,findNow->alC,sameNow->anz,findKey->amd,checkKey->aoB,mapUpdate->akV,keyThatStays->alD,sameBits->anC,lookup->amS
open Int renaming natCast_mul->ama
open Array renaming map->amO,mapM_eq_mapM_toList->anx,eraseIdxIfInBounds->aoC,getD_eq_getD_getElem?->anH
open List.Pairwise renaming nil->amb,cons->apR
open Pure renaming pure->alj
open Go.Region renaming wanted->amY
theorem aa{p:Prop}(h:p:=by omega):p:=h
theorem ab{p:Prop}(h:p:=by decide):p:=h
theorem ac{p:Prop}(h:p:=by simp):p:=h
abbrev au:=@if_neg
abbrev aw:=@if_pos
abbrev aE:=@Option.bind_some
abbrev bd:=@Nat.le_refl
abbrev bi:=@List.getElem?_eq_getElem
abbrev bk:=@Bool.and_eq_true
abbrev cF:=@List.getElem_mem
abbrev cT:=@Nat.lt_or_ge
abbrev c4:=@Nat.le_trans
abbrev eP:=@List.length_map
abbrev eQ:=@List.mem_map
abbrev eU:=@Nat.zero_le
abbrev eV:=@Option.bind_eq_some_iff
abbrev eZ:=@Option.some.injEq
abbrev fm:=@Int.le_of_lt
abbrev fA:=@Nat.eq_of_beq_eq_true
abbrev fC:=@List.mem_cons
abbrev fG:=@Option.map_eq_some_iff
abbrev fN:=@List.take_of_length_le
abbrev fU:=@Int.toNat_natCast
abbrev gh:=@Int.eq_ofNat_of_zero_le
abbrev gn:=@List.length_take
abbrev gp:=@List.mem_singleton
abbrev gq:=@Option.some.inj
abbrev gC:=@List.mem_cons_of_mem
abbrev gD:=@List.mem_range
abbrev gW:=@List.map_cons
abbrev gX:=@Nat.le_of_ble_eq_true
abbrev g0:=@List.all_eq_true
abbrev g1:=@List.mem_iff_getElem
abbrev hn:=@List.mem_append
abbrev ho:=@List.nil_append
abbrev hM:=@List.take_length
abbrev hN:=@Nat.min_eq_left
abbrev hT:=@List.getElem?_eq_some_iff
abbrev hU:=@List.mem_filter
abbrev h4:=@List.cons.injEq
abbrev h5:=@List.length_append
abbrev ih:=@Int.lt_or_le
abbrev ij:=@List.ext_getElem?
abbrev ik:=@List.pairwise_iff_getElem
abbrev ir:=@Bool.not_true
abbrev iv:=@List.length_cons
abbrev iy:=@Prod.mk.injEq
abbrev iJ:=@List.map_congr_left
abbrev iY:=@Nat.mul_le_mul_right
abbrev jh:=@Nat.lt_of_lt_of_le
abbrev ji:=@Option.map_some
abbrev js:=@List.mem_cons_self
abbrev jt:=@List.nodup_append
abbrev jx:=@Bool.or_eq_true
abbrev jz:=@Int.mul_assoc
abbrev jA:=@Int.mul_le_mul_of_nonneg_left
abbrev jB:=@List.range_succ
abbrev jP:=@Int.mul_comm
abbrev jQ:=@List.getElem?_map
abbrev jR:=@List.map_append
abbrev jS:=@List.nodup_cons
abbrev jT:=@List.take_add_one
abbrev jU:=@List.take_append_drop
abbrev j8:=@Nat.two_pow_pos
abbrev kF:=@List.cons_append
abbrev kZ:=@List.append_assoc
abbrev k0:=@List.getD_eq_getElem?_getD
abbrev k1:=@List.mem_append_right
abbrev k2:=@Nat.pow_add
abbrev lx:=@Int.mul_nonneg
abbrev ly:=@Int.pow_add
abbrev lz:=@Int.pow_pos
abbrev lB:=@List.length_filter_le
abbrev lX:=@Int.emod_add_mul_ediv
abbrev lZ:=@List.filter_cons
abbrev l0:=@List.flatten_cons
abbrev l1:=@List.mem_flatten
abbrev l3:=@Nat.add_mul
abbrev l4:=@Nat.add_zero
abbrev my:=@Int.ediv_nonneg
abbrev mA:=@List.filter_eq_self
abbrev mB:=@Nat.one_mul
abbrev mC:=@Nat.zero_add
abbrev m5:=@List.drop_zero
abbrev m6:=@List.getElem_map
abbrev m7:=@List.pairwise_cons
abbrev m8:=@Nat.mul_le_mul
abbrev nD:=@Int.mul_le_mul_of_nonneg_right
abbrev nE:=@List.flatMap_append
abbrev nF:=@List.length_drop
abbrev nG:=@List.mem_append_left
abbrev od:=@Bool.not_false
abbrev oj:=@Int.emod_nonneg
abbrev om:=@Int.zero_mul
abbrev oq:=@List.append_nil
abbrev ot:=@List.flatMap_cons
abbrev ou:=@List.pairwise_map
abbrev o4:=@Int.natAbs_mul
abbrev o5:=@List.filter_append
abbrev o6:=@List.length_range
abbrev pT:=@Int.ediv_eq_zero_of_lt
abbrev pU:=@Int.emod_lt_of_pos
abbrev pV:=@Int.mul_pos
abbrev pY:=@List.any_eq_true
abbrev pZ:=@List.drop_eq_nil_of_le
abbrev p0:=@List.filter_congr
abbrev p1:=@List.getElem?_drop
abbrev p2:=@List.getElem?_eq_none
abbrev p3:=@List.getElem_inj
abbrev p4:=@List.length_eq_one_iff
abbrev p5:=@List.length_nil
abbrev p6:=@List.map_map
abbrev p7:=@List.mem_of_getElem?
abbrev qa:=@Nat.lt_succ_self
abbrev qb:=@Nat.mul_comm
abbrev q5:=@Array.mem_append_right
abbrev q9:=@List.drop_drop
abbrev rc:=@List.drop_of_length_le
abbrev re:=@List.eq_nil_of_length_eq_zero
abbrev rf:=@List.getElem?_append_left
abbrev rh:=@List.getElem?_append_right
abbrev ri:=@List.getElem?_cons_zero
abbrev rj:=@List.length_singleton
abbrev rk:=@Nat.eq_zero_or_pos
abbrev sj:=@Array.getElem?_eq_some_iff
abbrev sr:=@Int.ediv_lt_of_lt_mul
abbrev ss:=@Int.emod_eq_of_lt
abbrev su:=@Int.mul_lt_mul_of_pos_right
abbrev sv:=@Int.natCast_mul
abbrev sw:=@List.Pairwise.imp_of_mem
abbrev sx:=@List.all_cons
abbrev sA:=@List.drop_append_of_le_length
abbrev sB:=@List.getElem?_take_of_lt
abbrev sC:=@List.length_replicate
abbrev sD:=@List.map_nil
abbrev sE:=@List.nodup_range
abbrev sF:=@Nat.add_sub_cancel_left
abbrev sG:=@Nat.lt_trichotomy
abbrev sH:=@Nat.not_lt_zero
abbrev sI:=@Nat.pow_le_pow_right
abbrev sJ:=@Rat.intCast_mul
abbrev sK:=@Rat.mul_eq_zero
abbrev um:=@Bool.and_eq_true_iff
abbrev uo:=@Bool.not_eq_true'
abbrev uu:=@Int.ediv_ediv_of_nonneg
abbrev uv:=@Int.ediv_le_self
abbrev uw:=@List.any_eq_false
abbrev ux:=@List.count_append
abbrev uy:=@List.filter_sublist
abbrev uz:=@List.length_pos_iff
abbrev uA:=@List.mem_of_mem_take
abbrev uB:=@List.perm_iff_count
abbrev uC:=@List.size_toArray
abbrev uD:=@List.take_append_of_le_length
abbrev uE:=@Nat.add_assoc
abbrev uF:=@Nat.mul_assoc
abbrev uG:=@Nat.pow_succ
abbrev wI:=@Array.replicate_succ
abbrev wJ:=@Array.replicate_zero
abbrev wK:=@Bool.eq_iff_iff
abbrev wP:=@Int.add_mul_ediv_left
abbrev wQ:=@List.append_of_mem
abbrev wR:=@List.append_toArray
abbrev wS:=@List.getElem?_cons_succ
abbrev wT:=@List.push_toArray
abbrev wV:=@Nat.lt_irrefl
abbrev wX:=@Option.getD_some
abbrev za:=@Int.add_mul_emod_self_left
abbrev zb:=@List.filter_filter
abbrev zc:=@List.flatten_append
abbrev zd:=@List.getElem?_set
abbrev ze:=@List.getElem_set_ne
abbrev zf:=@List.map_singleton
abbrev zg:=@List.mem_toArray
abbrev zh:=@List.singleton_append
abbrev B7:=@Array.getElem?_eq_getElem
abbrev B8:=@Array.getElem?_toList
abbrev B9:=@Bool.or_eq_true_iff
abbrev Ce:=@Int.lt_of_mul_lt_mul_left
abbrev Cf:=@Int.mul_ediv_cancel
abbrev Cg:=@Int.natAbs_natCast
abbrev Ch:=@List.filter_eq_nil_iff
abbrev Ci:=@List.getElem?_range
abbrev Cj:=@List.idxOf_lt_length_iff
abbrev Ck:=@List.mem_take_iff_getElem
abbrev GO:=@Int.tdiv_eq_ediv_of_nonneg
abbrev GP:=@Int.tmod_eq_emod_of_nonneg
abbrev GU:=@List.drop_eq_getElem_cons
abbrev GV:=@List.filter_cons_of_neg
abbrev GW:=@List.filter_cons_of_pos
abbrev GX:=@List.mem_of_find?_eq_some
abbrev GZ:=@Option.isSome_iff_exists
abbrev dj:=List (Int×(Int×(List Int×(Int×Unit))))×(Option (List (Int×(Int×(List Int×(Int×Unit)))))×Option (List Int)×Unit)×Unit
abbrev dm:=List (Int×(Int×(List Int×(Int×Unit))))×(Option Int×Unit)×Unit
abbrev dn:=(List (List Int)×Unit)×(List (List Int)×Unit)×List Int×Unit
abbrev dp:=(Int×List Int×Unit)⊕((List Int×Unit)⊕(List Int×Bool×Unit))
abbrev dq:=(List Int×Unit)⊕((Int×List Int×Unit)⊕(Unit⊕(Int×Unit)))
abbrev dr:=Int×(List (List Int)×Unit)×(List (List Int)×Unit)×Unit
abbrev dt:=(List (List Int)×Unit)×(List (List Int)×Unit)×Unit
abbrev du:=List Int×(Option (List (List Int)×Unit)×Unit)×Unit
abbrev dv:=Int×(List (List Int)×Unit)×List (List Bool)×Unit
abbrev dw:=(List (List Int)×Unit)×List (List Bool)×Unit
abbrev dx:=Int×(List (List Bool)×(List Bool×Unit))×Unit
abbrev dy:=(List (List Bool)×(List Bool×Unit))×Unit
abbrev dz:=(Int×List Bool×Unit)⊕(Unit⊕(Bool×Unit))
abbrev dA:=List (Int×(Int×(List Int×(Int×Unit))))
abbrev dC:=(List (List Int)×Unit)×List Int×Unit
abbrev dD:=(List Int×Unit)⊕(List Int×Bool×Unit)
abbrev dE:=Unit⊕((Int×Unit)⊕(Unit⊕(Int×Unit)))
abbrev dF:=(Int×List Int×Unit)⊕(List Int×Unit)
abbrev dH:=(Int×Int×Unit)⊕(Unit⊕(Bool×Unit))
abbrev dI:=List (List Bool)×(List Bool×Unit)
abbrev dJ:=(List (List Int)×Unit)×Int×Unit
abbrev dK:=Int×(Int×(List Int×(Int×Unit)))
abbrev dL:=(Int×Unit)⊕(Unit⊕(Bool×Unit))
abbrev dM:=(Int×Unit)⊕(Unit⊕(Int×Unit))
abbrev dN:=(List (List Int)×Unit)×Unit
abbrev dO:=Int×List (List Bool)×Unit
abbrev dP:=Int×(List Int×(Int×Unit))
abbrev dQ:=List (List Bool)×Unit
abbrev dR:=List (List Int)×Unit
abbrev dT:=List Int×Bool×Unit
abbrev dU:=Int×List Bool×Unit
abbrev dV:=List Int×Int×Unit
abbrev dX:=Int×List Int×Unit
abbrev dY:=Nat×Nat×List Nat
abbrev dZ:=Unit⊕(Bool×Unit)
abbrev ea:=Int×Int×Int×Unit
abbrev eb:=Unit⊕(Int×Unit)
abbrev ec:=List Bool×Unit
abbrev ed:=Int×Bool×Unit
abbrev ee:=List Int×Unit
abbrev ef:=Bool×Int×Unit
abbrev eg:=Int×Int×Unit
abbrev eh:=Bool×Unit
abbrev ei:=Int×Unit
abbrev ej:=Nat×Nat
abbrev en:=List (List Go.Value)
abbrev eo:=Option (List Int)
abbrev ep:=List (Option Int)
abbrev er:=List (List Bool)
abbrev es:=List (List Nat)
abbrev et:=List (List Int)
abbrev eu:=Option Go.Operand
abbrev ev:=Array Go.Value
abbrev ew:=List Go.TypeId
abbrev ey:=List Go.Value
abbrev ez:=Option Int
abbrev aj1:=Option Nat
abbrev aj2:=List Bool
abbrev aj3:=Option eh
abbrev aj4:=Option ei
abbrev aj5:=List Nat
abbrev aj6:=List Int
abbrev aj7:=List ej
noncomputable section
namespace Go.jy
variable{a x T:bF}{b i:X}{c g:bM}{f m:bC}{h N:ey}{j:X->Prop}{k:aj5}{o:bT ch}{p:X->aj5}{r:X->ey}{s:bv Addr}{t:b5->Act->bC->Prop}{v:cr}{y S:Type}{O:ev}{Q:bT (X×bM)}{R:Value}
inductive eE where
 |bg
 |c9
 deriving ans
variable{e:eE->X->Prop}
inductive ah where
 |int (k:cr)
 |bool
 |str
 |a8 (m:eE) (t:ah)
 |ptr (m:eE) (t:ah)
 |osl (t:ah)
 |optr (t:ah)
 |st (t:ah)
 |pr (a b:ah)
 |nil
 |eF
 |mp (t:ah)
 |fB (m:eE) (t:ah)
 |fn (n:X) (t:ah)
 deriving ans
variable{d q:ah}{l:bm (X×ah)}
def ah.size:ah->X
 |.pr a b=>a.size+b.size
 |.st c=>c.size
 |.nil|.eF=>0
 |_=>1
@[reducible] def ah.den:ah->Type
 |.int _=>Z
 |.bool=>bA
 |.str=>ByteArray
 |.a8 _ a=>bm a.den
 |.ptr _ a=>bv a.den
 |.osl a=>bm a.den
 |.optr a=>a.den
 |.st a=>a.den
 |.pr b c=>b.den×c.den
 |.nil=>bt
 |.eF=>bt
 |.mp a=>bv (bm (Z×a.den)×X)
 |.fB _ a=>bv (bm (Z×a.den)×X)
 |.fn _ a=>a.den
def kG {d:Type} (b:bm (Z×X×d)) (c:bm (Z×d)) (g:X):Prop:=
 c.Pairwise (λe f=>e.1<f.1)/\(b.map λa=>(a.1,a.2.2)).Perm c/\(b.map λa=>a.2.1).Nodup/\∀a∈b,a.2.1<g
def c0:ah->ey->Value
 |.st _,a=>.agg a.toArray
 |_,a=>a.headD bV
def fy (f:bC) (c e:X) (d:ey):Prop:=∀a b,d[a]?=Y b->f.cell? ⟨c,e+a,bo⟩=Y b
def iW (c:bC) (b e d:X):Prop:=∀a,e<=a->a<d->(c.cell? ⟨b,a,bo⟩).isSome=bq/\c.frozen? ⟨b,a,bo⟩=bp
def jm (d:bC) (a:X):bv (bT ch×X):=match d.heap[a]? with
 |some (.map c b)=>Y (c,b)
 |_=>bo
def c8 (c d:bC) (a:X):Prop:=(∀b,d.cell? ⟨a,b,bo⟩=c.cell? ⟨a,b,bo⟩/\d.frozen? ⟨a,b,bo⟩=c.frozen? ⟨a,b,bo⟩)/\jm d a=jm c a
def c8.refl (a:bC) (b:X):c8 a a b:=⟨λ_=>⟨bn,bn⟩,bn⟩
theorem c8.of_heap (c:m.heap[b]?=f.heap[b]?):c8 f m b:=
 ⟨λd=>⟨aov (a:=⟨b,d,bo⟩) c,aow (a:=⟨b,d,bo⟩) c⟩,by grind [jm]⟩
def kY (j k:bC) (d:X):Prop:=∀f b,jm j d=Y (f,b)->∃g e,jm k d=Y (g,e)/\b<=e/\∀(h:X) (a:ch),g[h]?=Y a->a.born<b->∃(i:X) (c:ch),f[i]?=Y c/\c.key=a.key/\c.born=a.born
def kY.of_eq (e:jm m b=jm f b):kY f m b:=
 λd a h=>⟨d,a,e.trans h,bd _,λi c g _=>⟨i,c,g,bn,bn⟩⟩
def kY.refl (a:bC) (b:X):kY a a b:=.of_eq bn
def kY.of_heap {b c:bC} {a:X} (d:c.heap[a]?=b.heap[a]?):kY b c a:=.of_eq (c8.of_heap d).2
theorem kY.trans {a:bC} (h:kY f m b) (i:kY m a b):kY f a b:=λe c k=>by obtain⟨g,d,j,o,p⟩:=h e c k;obtain⟨n,l,q,r,s⟩:=i g d j;grind
def fy.sm (a:fy f b i h) (d:c8 f m b):fy m b i h:=
 λe g c=>by rw[(d.1 _).1];exact a e g c
def iW.sm {c:X} (d:iW f b c i) (a:c8 f m b):iW m b c i:=
 λh e g=>by rw[(a.1 _).1,(a.1 _).2];exact d h e g
def aU (i:eE->X->Prop) (f:bC):(B:ah)->ey->B.den->aj5->Prop
 |.int z,a,v,d=>d=[]/\a=[.int z v]
 |.bool,a,c,d=>d=[]/\a=[.bool c]
 |.str,a,A,d=>d=[]/\a=[.string A]
 |.a8 s b,a,l,d=>d=[]/\∃k n,a=[.slice k l.length n]/\l.length<=n/\(k=bo->n=0)/\(l=[]\/∃c h,k=Y ⟨c,h,bo⟩/\i s c/\∀j g,l[j]?=Y g->∃e,e.length=b.size/\fy f c (h+j*b.size) e/\aU i f b e g [])
 |.ptr s b,a,g,d=>d=[]/\match g with
  |none=>a=[.pointer bo]
  |some w=>∃c h e,a=[.pointer (Y ⟨c,h,bo⟩)]/\i s c/\e.length=b.size/\fy f c h e/\aU i f b e w []
 |.osl b,a,l,d=>∃k n,a=[.slice k l.length n]/\((
   k=bo/\l=[]/\n=0/\d=[])\/∃(c h:X) (t:es),k=Y ⟨c,h,bo⟩/\d=c::t.flatten/\t.length=l.length/\l.length<=n/\
   iW f c h (h+n*b.size)/\∀j g r,l[j]?=Y g->t[j]?=Y r->∃e,e.length=b.size/\fy f c (h+j*b.size) e/\aU i f b e g r)
 |.optr b,a,w,d=>∃c h r e,a=[.pointer (Y ⟨c,h,bo⟩)]/\d=c::r/\e.length=b.size/\fy f c h e/\iW f c h (h+b.size)/\aU i f b e w r
 |.st b,a,g,d=>aU i f b a g d
 |.pr k c,a,g,d=>∃x f2,d=x++f2/\aU i f k (a.take k.size) g.1 x/\aU i f c (a.drop k.size) g.2 f2
 |.nil,a,_,d=>d=[]/\a=[]
 |.eF,a,_,_=>a=[]
 |.mp b,a,g,d=>match g with
  |none=>d=[]/\a=[.map bo]
  |some (u,q)=>∃(c:X) (p:bT ch) (o:bm (Z×X×b.den)),a=[.map (Y c)]/\d=[c]/\kG o u q/\jm f c=Y (p,q)/\p.size=o.length/\∀(j:X) (m:Z×X×b.den),o[j]?=Y m->∃e:ey,e.length=b.size/\p[j]?=Y (amJ (.int .i64 m.1) (c0 b e) m.2.1)/\aU i f b e m.2.2 []
 |.fB s b,a,g,d=>match g with
  |none=>d=[]/\a=[.map bo]
  |some (u,q)=>∃(c:X) (p:bT ch) (o:bm (Z×X×b.den)),a=[.map (Y c)]/\d=[]/\kG o u q/\i s c/\jm f c=Y (p,q)/\p.size=o.length/\∀(j:X) (m:Z×X×b.den),o[j]?=Y m->∃e:ey,e.length=b.size/\p[j]?=Y (amJ (.int .i64 m.1) (c0 b e) m.2.1)/\aU i f b e m.2.2 []
 |.fn v b,a,g,d=>d=[]/\∃y:ey,a=[.func (.func v) #[] y.toArray]/\aU i f b y g []
theorem aU.len {i:eE->X->Prop} {r:bC}:∀{τ:ah} {e:ey} {b:τ.den} {l:aj5},aU i r τ e b l->e.length=τ.size
 |.int _,_,_,_,a=>by rw[a.2];rfl
 |.bool,_,_,_,a=>by rw[a.2];rfl
 |.str,_,_,_,a=>by rw[a.2];rfl
 |.a8 _ _,_,_,_,a=>by obtain⟨_,c,g,a,_⟩:=a;rw[a];rfl
 |.ptr _ _,_,b,_,a=>by
  obtain⟨_,a⟩:=a;cases b with
  |none=>simp only at a;rw[a];rfl
  |some x=>obtain⟨d,v,j,a,_⟩:=a;rw[a];rfl
 |.osl _,_,_,_,a=>by obtain⟨c,g,a,_⟩:=a;rw[a];rfl
 |.optr _,_,_,_,a=>by obtain⟨c,g,s,j,a,_⟩:=a;rw[a];rfl
 |.st f,_,_,_,a=>aU.len (τ:=f) a
 |.pr c d,e,_,_,a=>by obtain⟨t,f2,_,m,n⟩:=a;have o:=aU.len (τ:=c) m;have p:=aU.len (τ:=d) n;simp only[gn,nF] at o p;show e.length=c.size+d.size;omega
 |.nil,_,_,_,a=>by rw[a.2];rfl
 |.eF,_,_,_,a=>by rw[show _=[] from a];rfl
 |.mp f,_,b,_,a=>by
  cases b with
  |none=>rw[a.2];rfl
  |some q=>obtain⟨d,k,h,a,_⟩:=a;rw[a];rfl
 |.fB u f,_,b,_,a=>by
  cases b with
  |none=>rw[a.2];rfl
  |some q=>obtain⟨d,k,h,a,_⟩:=a;rw[a];rfl
 |.fn _ _,_,_,_,a=>by obtain⟨_,w,a,_⟩:=a;rw[a];rfl
theorem aU.one {j:eE->X->Prop} {r:bC}:∀{τ:ah} {cs:ey} {d:τ.den} {l:aj5},aU j r τ cs d l->∀g∈cs,g.oneCell'=bq
 |.int _,_,_,_,a=>by rw[a.2];simp[akp]
 |.bool,_,_,_,a=>by rw[a.2];simp[akp]
 |.str,_,_,_,a=>by rw[a.2];simp[akp]
 |.a8 _ _,_,_,_,a=>by obtain⟨_,e,h,a,_⟩:=a;grind [akp]
 |.ptr _ _,_,d,_,a=>by obtain⟨_,a⟩:=a;grind [akp]
 |.osl _,_,_,_,a=>by obtain⟨e,h,a,_⟩:=a;grind [akp]
 |.optr _,_,_,_,a=>by obtain⟨e,h,f,s,a,_⟩:=a;grind [akp]
 |.st t,_,_,_,a=>aU.one (τ:=t) a
 |.pr e b,cs,_,_,a=>by
  obtain⟨u,f2,_,m,n⟩:=a;have o:=aU.one (τ:=e) m;have p:=aU.one (τ:=b) n;intro g c;rw[<-jU e.size cs] at c;rcases hn.1 c with c|c
  ·exact o g c
  exact p g c
 |.nil,_,_,_,a=>by rw[a.2];simp
 |.eF,_,_,_,a=>by rw[show _=[] from a];simp
 |.mp t,_,d,_,a=>by
  cases d with
  |none=>rw[a.2];simp[akp]
  |some q=>obtain⟨b,k,i,a,_⟩:=a;grind [akp]
 |.fB v t,_,d,_,a=>by
  cases d with
  |none=>rw[a.2];simp[akp]
  |some q=>obtain⟨b,k,i,a,_⟩:=a;grind [akp]
 |.fn _ _,_,_,_,a=>by obtain⟨_,w,a,_⟩:=a;grind [akp]
theorem aU.mono {L M:eE->X->Prop} {B C:bC} (d:∀j b,L j b->M j b/\c8 B C b):∀{τ:ah} {F:ey} {g:τ.den} {r:aj5},aU L B τ F g r->(∀b∈r,c8 B C b)->aU M C τ F g r
 |.int _,_,_,_,a,_=>a
 |.bool,_,_,_,a,_=>a
 |.str,_,_,_,a,_=>a
 |.a8 j m,_,U,_,a,_=>by obtain⟨y,x,E,e,c,k,l⟩:=a;refine⟨y,x,E,e,c,k,l.imp id ?_⟩;rintro⟨b,w,J,i,K⟩;refine⟨b,w,J,(d j b i).1,λv g u=>?_⟩;obtain⟨h,o,p,q⟩:=K v g u;exact⟨h,o,p.sm (d j b i).2,aU.mono d q ac⟩
 |.ptr j m,_,g,_,a,_=>by
  obtain⟨y,a⟩:=a;refine⟨y,?_⟩;cases g with
  |none=>exact a
  |some ad=>
   obtain⟨b,w,h,e,c,k,l,s⟩:=a;exact⟨b,w,h,e,(d j b c).1,k,l.sm (d j b c).2,aU.mono d s ac⟩
 |.osl m,_,U,r,a,f=>by obtain⟨x,E,e,c⟩:=a;refine⟨x,E,e,c.imp id ?_⟩;rintro⟨b,w,O,J,z,S,t,R,K⟩;have i:c8 B C b:=f b (by grind);refine⟨b,w,O,J,z,S,t,R.sm i,λv g H u Q=>?_⟩;obtain⟨h,o,p,q⟩:=K v g H u Q;refine⟨h,o,p.sm i,aU.mono d q (λn t=>f n ?_)⟩;grind [alx,aly,al3]
 |.optr m,_,_,_,a,f=>by obtain⟨b,w,H,h,e,c,k,l,s,P⟩:=a;have i:c8 B C b:=f b (by grind);exact⟨b,w,H,h,e,c,k,l.sm i,s.sm i,aU.mono d P (λn t=>f n (by grind))⟩
 |.st m,_,_,_,a,f=>aU.mono (τ:=m) d a f
 |.pr x b,F,_,_,a,f=>by obtain⟨N,f2,z,e,c⟩:=a;exact⟨N,f2,z,aU.mono (τ:=x) d e (λn t=>f n (by rw[z];exact nG _ t)),aU.mono (τ:=b) d c (λn t=>f n (by rw[z];exact k1 _ t))⟩
 |.nil,_,_,_,a,_=>a
 |.eF,_,_,_,a,_=>a
 |.mp m,_,g,r,a,f=>by
  cases g with
  |none=>exact a
  |some A=>
   obtain⟨b,G,D,e,c,I,k,l,s⟩:=a;refine⟨b,G,D,e,c,I,(f b (by rw[c];simp)).2.trans k,l,λv A u=>?_⟩;obtain⟨h,o,p,q⟩:=s v A u;exact⟨h,o,p,aU.mono d q ac⟩
 |.fB j m,_,g,r,a,f=>by
  cases g with
  |none=>exact a
  |some A=>
   obtain⟨b,G,D,e,c,I,i,k,l,s⟩:=a;refine⟨b,G,D,e,c,I,(d j b i).1,(d j b i).2.2.trans k,l,λv A u=>?_⟩;obtain⟨h,o,p,q⟩:=s v A u;exact⟨h,o,p,aU.mono d q ac⟩
 |.fn V m,_,g,r,a,_=>by obtain⟨y,T,e,c⟩:=a;exact⟨y,T,e,aU.mono d c ac⟩
def ah.kT:ah->bA
 |.eF=>bp
 |.a8 _ a|.ptr _ a|.osl a|.optr a|.st a|.mp a|.fB _ a|.fn _ a=>a.kT
 |.pr b c=>b.kT&&c.kT
 |_=>bq
theorem aU.uniq {r:eE->X->Prop} {x:bC}:∀{τ:ah} {p:ey} {e k:τ.den} {h u:aj5},τ.kT=bq->aU r x τ p e h->aU r x τ p k u->h=u
 |.int _,_,_,_,_,_,_,a,b=>a.1.trans b.1.symm
 |.bool,_,_,_,_,_,_,a,b=>a.1.trans b.1.symm
 |.str,_,_,_,_,_,_,a,b=>a.1.trans b.1.symm
 |.a8 _ _,_,_,_,_,_,_,a,b=>a.1.trans b.1.symm
 |.ptr _ _,_,_,_,_,_,_,a,b=>a.1.trans b.1.symm
 |.nil,_,_,_,_,_,_,a,b=>a.1.trans b.1.symm
 |.fn _ _,_,_,_,_,_,_,a,b=>a.1.trans b.1.symm
 |.eF,_,_,_,_,_,d,_,_=>by cases d
 |.fB F g,p,e,k,h,u,_,a,b=>by
  have a0:∀{e:(ah.fB F g).den} {h:aj5},aU r x (.fB F g) p e h->h=[]:=λ{e h} a=>by
   cases e with
   |none=>exact a.1
   |some Q=>obtain⟨l,C,y,_,m,_⟩:=a;exact m
  grind
 |.mp g,_,e,k,_,_,_,a,b=>by
  cases e with
  |none=>
   cases k with
   |none=>exact a.1.trans b.1.symm
   |some R=>
    obtain⟨l,C,y,f,_⟩:=b;have:=a.2.symm.trans f;grind
  |some Q=>
   obtain⟨l,C,y,f,m,_⟩:=a;cases k with
   |none=>
    have:=f.symm.trans b.2;grind
   |some R=>
    obtain⟨A,a3,V,i,D,_⟩:=b;grind
 |.st g,_,_,_,_,_,d,a,b=>aU.uniq (τ:=g) d a b
 |.pr z l,_,_,_,_,_,d,a,b=>by simp only[ah.kT,bk] at d;obtain⟨bl,f2,rfl,f,m⟩:=a;obtain⟨bs,bx,rfl,E,v⟩:=b;rw[aU.uniq (τ:=z) d.1 f E,aU.uniq (τ:=l) d.2 m v]
 |.optr g,_,_,_,_,_,d,a,b=>by
  obtain⟨l,O,h,j,f,rfl,E,v,_,L⟩:=a;obtain⟨A,P,a4,n,i,rfl,ce,K,_,M⟩:=b;rw[f] at i;simp only[h4,ale,eZ,akq,ca] at i;obtain⟨rfl,rfl⟩:=i;obtain rfl:j=n:=by
   apply ij;intro c;rcases cT c j.length with w|w
   ·have ay:=v c j[c] (by grind);have S:=K c (n[c]'(by omega)) ac
    grind
   grind
  rw[aU.uniq (τ:=g) d L M]
 |.osl g,_,e,k,_,_,d,a,b=>by
  obtain⟨z,am,f,m⟩:=a;obtain⟨ad,an,i,D⟩:=b;rw[f] at i;simp only[h4,aka,ca] at i;obtain⟨rfl,ci,rfl⟩:=i;rcases m with⟨rfl,rfl,rfl,rfl⟩|⟨l,O,s,rfl,rfl,ay,S,cv,T⟩
  ·grind
  rcases D with⟨q,_⟩|⟨A,P,t,q,rfl,co,cs,c1,U⟩
  ·cases q
  simp only[eZ,akq,ca] at q;obtain⟨rfl,rfl⟩:=q;have:s=t:=by
   apply ij;intro c;rcases cT c e.length with w|w
   ·have ao:s[c]?=Y (s[c]'(by omega)):=bi aa
    have B:t[c]?=Y (t[c]'(by omega)):=bi aa
    obtain⟨j,ap,G,I⟩:=T c e[c] _ (by grind) ao;obtain⟨n,av,H,J⟩:=U c (k[c]'(by omega)) _ ac B
    obtain rfl:j=n:=by
     apply ij;intro o;rcases cT o j.length with N|N
     ·have c2:=G o j[o] (by grind);have dg:=H o (n[o]'(by omega)) ac
      grind
     grind
    rw[ao,B,aU.uniq (τ:=g) d I J]
   grind
  grind
inductive a6 where
 |idx (i:X)
 |deref
 |unst
 |fst
 |snd
 deriving ans
variable{n:bm a6}
def eT:(τ:ah)->τ.den->bm a6->(a:ah)->a.den->Prop
 |τ,d,[],a,b=>∃i:τ=a,i▸d=b
 |.osl e,k,.idx j::c,a,b=>∃f,k[j]?=Y f/\eT e f c a b
 |.optr e,d,.deref::c,a,b=>eT e d c a b
 |.st e,d,.unst::c,a,b=>eT e d c a b
 |.pr g _,d,.fst::c,a,b=>eT g d.1 c a b
 |.pr _ h,d,.snd::c,a,b=>eT h d.2 c a b
 |_,_,_,_,_=>b4
def ff:(τ:ah)->τ.den->bm a6->(a:ah)->a.den->τ.den->Prop
 |τ,_,[],a,b,e=>∃m:τ=a,m▸e=b
 |.osl g,j,.idx i::c,a,b,n=>∃h f,j[i]?=Y h/\ff g h c a b f/\n=j.set i f
 |.optr g,d,.deref::c,a,b,e=>ff g d c a b e
 |.st g,d,.unst::c,a,b,e=>ff g d c a b e
 |.pr k _,d,.fst::c,a,b,e=>∃f,ff k d.1 c a b f/\e=(f,d.2)
 |.pr _ l,d,.snd::c,a,b,e=>∃f,ff l d.2 c a b f/\e=(d.1,f)
 |_,_,_,_,_,_=>b4
theorem eT.gz {a:d.den} {b:q.den}:eT d a [] q b↔∃c:d=q,c▸a=b:=by cases d<;>exact al4
theorem ff.gz {e a:d.den} {b:q.den}:ff d e [] q b a↔∃c:d=q,c▸a=b:=by cases d<;>exact al4
abbrev Loc:=bv ej
variable{w:Loc}
def a5 (k:bC):(τ:ah)->Loc->ey->bm a6->(a:ah)->Loc->ey->Prop
 |τ,i,b,[],a,d,c=>τ=a/\i=d/\b=c
 |.osl g,_,b,.idx m::f,a,d,c=>∃e j n p h,b=[.slice (Y ⟨e,j,bo⟩) n p]/\m<n/\h.length=g.size/\fy k e (j+m*g.size) h/\a5 k g (Y (e,j+m*g.size)) h f a d c
 |.optr g,_,b,.deref::f,a,d,c=>∃e j h,b=[.pointer (Y ⟨e,j,bo⟩)]/\h.length=g.size/\fy k e j h/\a5 k g (Y (e,j)) h f a d c
 |.st g,i,b,.unst::f,a,d,c=>a5 k g i b f a d c
 |.pr l _,i,b,.fst::f,a,d,c=>a5 k l i (b.take l.size) f a d c
 |.pr l e,i,b,.snd::f,a,d,c=>a5 k e (i.map λo=>(o.1,o.2+l.size)) (b.drop l.size) f a d c
 |_,_,_,_,_,_,_=>b4
theorem fy.eq (c:fy f b i h) (d:fy f b i N) (k:h.length=N.length):h=N:=by
 apply ij;intro a;rcases cT a h.length with e|e
 ·have g:=c a h[a] (by grind);have j:=d a (N[a]'(by omega)) ac
  grind
 grind
theorem a5.kN {w:bC}:∀{p:bm a6} {e:ah} {j:Loc} {f:ey} {u v:ah} {g h:Loc} {q r:ey},a5 w e j f p u g q->a5 w e j f p v h r->u=v/\g=h/\q=r
 |[],e,j,f,_,_,_,_,_,_,c,d=>by grind [a5]
 |s::p,e,j,f,_,_,_,_,_,_,c,d=>by
  cases e<;>cases s<;>simp only[a5] at c d
  case osl.idx t i=>
   obtain⟨m,A,E,C,y,ao,_,g,k,n⟩:=c;obtain⟨x,B,F,D,z,b,_,h,l,o⟩:=d;rw[ao] at b;simp only[h4,aka,eZ,akq,ca] at b;obtain⟨⟨rfl,rfl⟩,rfl,rfl⟩:=b;obtain rfl:=k.eq l aa;exact a5.kN n o
  case optr.deref t=>
   obtain⟨m,A,y,ao,g,k,n⟩:=c;obtain⟨x,B,z,b,h,l,o⟩:=d;rw[ao] at b;simp only[h4,ale,eZ,akq,ca] at b;obtain⟨rfl,rfl⟩:=b;obtain rfl:=k.eq l aa;exact a5.kN n o
  case st.unst t=>exact a5.kN c d
  case pr.fst a m=>exact a5.kN c d
  case pr.snd a m=>exact a5.kN c d
def sn (c d:bC) (f:Loc) (g:X) (b:X):Prop:=
 (∀a,(∀e,f=Y (b,e)->a<e\/e+g<=a)->d.cell? ⟨b,a,bo⟩=c.cell? ⟨b,a,bo⟩)/\
 (∀a,d.frozen? ⟨b,a,bo⟩=c.frozen? ⟨b,a,bo⟩)/\(∀a,(d.cell? ⟨b,a,bo⟩).isSome=(c.cell? ⟨b,a,bo⟩).isSome)/\jm d b=jm c b
def sn.sm (a:sn f m w i b) (e:∀c,w≠Y (b,c)):c8 f m b:=
 ⟨λd=>⟨a.1 d (λc g=>absurd g (e c)),a.2.1 d⟩,a.2.2.2⟩
def sn.EW {j c:X} (a:sn f m w j b) (g:iW f b c i):iW m b c i:=
 λh d e=>by rw[a.2.1,a.2.2.1];exact g h d e
def p8 (c:bC) (e:Loc) (d:ey) (f:X):Prop:=∀b a,e=Y (b,a)->fy c b a d/\iW c b a (a+f)
theorem fy.take {e:bC} {b d h:X} {c:ey} (f:fy e b d c):fy e b d (c.take h):=λg i a=>by
 rw[amK] at a;split at a
 ·exact f g i a
 grind
theorem fy.drop {f:bC} {b e a:X} {c:ey} (g:fy f b e c):fy f b (e+a) (c.drop a):=λh i d=>by rw[p1] at d;have:=g (a+h) i d;grind
theorem fy.append (d:fy f b i h) (e:fy f b (i+h.length) N):fy f b i (h++N):=λg c a=>by
 rw[List.getElem?_append] at a;split at a
 ·exact d g c a
 have:=e _ c a;grind
theorem afr {a:bm y} {d:y} (e:a[b]?=Y d):∃c f,a=c++d::f/\c.length=b:=by obtain⟨g,rfl⟩:=hT.1 e;exact⟨a.take b,a.drop (b+1),by rw[List.getElem_cons_drop,jU],by grind⟩
theorem a5.sm {D:eE->X->Prop} {y C:bC}:∀{x:bm a6} {τ:ah} {u:Loc} {h:ey} {z:τ.den} {p:aj5} {A:ah} {v:Loc} {n:ey},aU D y τ h z p->(∀a∈p,c8 y C a)->a5 y τ u h x A v n->a5 C τ u h x A v n
 |[],τ,_,_,_,_,_,_,_,_,_,b=>by cases τ<;>exact b
 |s::x,τ,u,h,z,p,A,v,n,g,d,b=>by
  cases τ<;>cases s<;>simp only[a5] at b
  case osl.idx t i=>
   obtain⟨a,w,U,F,o,rfl,N,q,f,r⟩:=b;obtain⟨m,Q,e,k⟩:=g;simp only[h4,aka,ca] at e;obtain⟨rfl,rfl,rfl⟩:=e;rcases k with⟨j,_⟩|⟨E,O,K,j,rfl,ay,V,ad,P⟩
   ·cases j
   simp only[eZ,akq,ca] at j;obtain⟨rfl,rfl⟩:=j;obtain⟨I,R,G,H⟩:=P i z[i] (K[i]'(by omega)) (by grind) ac
   obtain rfl:=f.eq G aa;exact⟨a,w,_,F,o,bn,N,q,f.sm (d a ac),a5.sm H (λc l=>d c (gC _ (l1.2 ⟨_,cF aa,l⟩))) r⟩
  case optr.deref t=>
   obtain⟨a,w,o,rfl,q,f,r⟩:=b;obtain⟨E,O,S,I,B,rfl,T,L,_,M⟩:=g;simp only[h4,ale,eZ,akq,ca] at B;obtain⟨rfl,rfl⟩:=B;obtain rfl:=f.eq L aa;exact⟨a,w,o,bn,q,f.sm (d a ac),a5.sm M (λc l=>d c (by grind)) r⟩
  case st.unst t=>exact a5.sm (τ:=t) g d b
  case pr.fst m a=>
   obtain⟨J,f2,rfl,e,k⟩:=g;exact a5.sm (τ:=m) e (λc l=>d c (by grind)) b
  case pr.snd m a=>
   obtain⟨J,f2,rfl,e,k⟩:=g;exact a5.sm (τ:=a) k (λc l=>d c (by grind)) b
def nW:bm a6->bA
 |[]=>bp
 |.idx _::_=>bq
 |.deref::_=>bq
 |_::a=>nW a
def hj:bm a6->bm a6->bA
 |p,[]=>nW p
 |.idx _::p,.idx _::a=>hj p a
 |.deref::p,.deref::a=>hj p a
 |.unst::p,.unst::a=>hj p a
 |.fst::p,.fst::a=>hj p a
 |.snd::p,.snd::a=>hj p a
 |.fst::_,.snd::_=>bq
 |.snd::_,.fst::_=>bq
 |_,_=>bp
theorem a5.n4 {a:Loc}:a5 f d w h [] q a N↔d=q/\w=a/\h=N:=by cases d<;>exact al4
def k6:bm a6->bm a6->bA
 |.deref::a,.deref::b=>k6 a b
 |.unst::a,.unst::b=>k6 a b
 |.fst::a,.fst::b=>k6 a b
 |.snd::a,.snd::b=>k6 a b
 |.fst::_,.snd::_=>bq
 |.snd::_,.fst::_=>bq
 |_,_=>bp
theorem vq (a:bm a6):k6 [] a=bp:=by cases a<;>rfl
theorem Il:∀{p q:bm a6},k6 p q=bq->hj p q=bq
 |[],q,a=>by grind [vq]
 |s::p,[],a=>by cases s<;>cases a
 |s::p,b::q,a=>by cases s<;>cases b<;>first|(cases a;done)|exact Il (p:=p) (q:=q) a|rfl
theorem vr:∀{p q:bm a6} {τ:ah} {h j:τ.den} {k f:ah} {l:k.den} {i:f.den},k6 p q=bq->ff τ h p k l j->eT τ h q f i->eT τ j q f i
 |[],q,_,_,_,_,_,_,_,d,_,_=>by grind [vq]
 |s::p,[],_,_,_,_,_,_,_,d,_,_=>by cases s<;>cases d
 |s::p,m::q,τ,h,j,k,f,l,i,d,c,e=>by
  cases τ<;>cases s<;>simp only[ff] at c<;>cases m<;>first|(cases d;done)|(simp only[eT] at e;done)|skip
  case optr.deref.deref t=>exact vr (p:=p) (q:=q) (τ:=t) d c e
  case st.unst.unst t=>exact vr (p:=p) (q:=q) (τ:=t) d c e
  case pr.fst.fst a b=>
   obtain⟨g,c,rfl⟩:=c;exact vr (p:=p) (q:=q) (τ:=a) d c e
  case pr.snd.snd a b=>
   obtain⟨g,c,rfl⟩:=c;exact vr (p:=p) (q:=q) (τ:=b) d c e
  case pr.fst.snd a b=>
   obtain⟨g,c,rfl⟩:=c;exact e
  case pr.snd.fst a b=>
   obtain⟨g,c,rfl⟩:=c;exact e
theorem aU.sub {B:eE->X->Prop} {A:bC}:∀{p:bm a6} {τ:ah} {z:Loc} {o:ey} {m:τ.den} {q:aj5} {l:ah} {r:l.den} {y:Loc} {n:ey},aU B A τ o m q->eT τ m p l r->a5 A τ z o p l y n->∃d,aU B A l n r d/\∀b∈d,b∈q
 |[],τ,z,o,m,q,l,r,y,n,f,c,a=>by grind [a5.n4,eT.gz]
 |s::p,τ,z,o,m,q,l,r,y,n,f,c,a=>by
  cases τ<;>cases s<;>simp only[eT] at c<;>simp only[a5] at a
  case osl.idx t i=>
   obtain⟨J,D,c⟩:=c;obtain⟨G,Q,ap,V,I,e,u,L,v,a⟩:=a;obtain⟨T,U,rfl,f⟩:=f;rcases f with⟨_,rfl,_⟩|⟨F,P,C,rfl,rfl,an,ad,N,O⟩
   ·grind
   have am:i<m.length:=(hT.1 D).1;obtain⟨d,E⟩:∃d,C[i]?=some d:=⟨C[i],bi aa⟩;obtain⟨H,M,w,x⟩:=O i J d D E;simp only[h4,aka,eZ,akq,ca] at e;obtain⟨⟨rfl,rfl⟩,rfl,rfl⟩:=e;obtain rfl:=v.eq w aa;obtain⟨g,j,k⟩:=aU.sub (p:=p) x c a;exact⟨g,j,λb h=>gC _ (l1.2 ⟨d,p7 E,k b h⟩)⟩
  case optr.deref t=>
   obtain⟨G,Q,I,e,L,v,a⟩:=a;obtain⟨F,P,d,H,rfl,rfl,M,w,N,x⟩:=f;simp only[h4,ale,eZ,akq,ca] at e;obtain⟨rfl,rfl⟩:=e;obtain rfl:=v.eq w aa;obtain⟨g,j,k⟩:=aU.sub (p:=p) x c a;exact⟨g,j,λb h=>gC _ (k b h)⟩
  case st.unst t=>exact aU.sub (p:=p) (τ:=t) f c a
  case pr.fst R S=>
   obtain⟨K,f2,rfl,e,u⟩:=f;obtain⟨g,j,k⟩:=aU.sub (p:=p) e c a;exact⟨g,j,λb h=>nG _ (k b h)⟩
  case pr.snd R S=>
   obtain⟨K,f2,rfl,e,u⟩:=f;obtain⟨g,j,k⟩:=aU.sub (p:=p) u c a;exact⟨g,j,λb h=>k1 _ (k b h)⟩
theorem AS:∀(am:bm a6) {τ:ah} {loc:Loc} {u:ey} {a0:τ.den} {ex:aj5} {F:ah} {ix:F.den},aU e f τ u a0 ex->p8 f loc u τ.size->ex.Nodup->(∀g d,loc=Y (g,d)->g∉ex/\∀q,¬e q g)->(∀g∈ex,∀q,¬e q g)->eT τ a0 am F ix->∃y S bl U,a5 f τ loc u am F y S/\aU e f F S ix bl/\p8 f y S F.size/\ex.Perm (bl++U)/\(∀m h,y=Y (m,h)->(∃d,loc=Y (m,d)/\d<=h/\h+F.size<=d+τ.size)\/m∈U)/\(∀(
   s:bC) (K:eE->X->Prop) (D:ey) (z:F.den) (V:aj5) (d0:τ.den),
   (∀q g,e q g->K q g)->(∀g,(∃q,e q g)\/g∈U\/(∃d,loc=Y (g,d))->sn f s y F.size g)->
   aU K s F D z V->(y=bo->am≠[]->D=S)->(∀g d,y=Y (g,d)->fy s g d D)->ff τ a0 am F z d0->
   ∃n N,aU K s τ n d0 N/\(am=[]->n=D)/\(loc=bo->(y≠bo\/D=S)->n=u)/\(∀g d,loc=Y (g,d)->fy s g d n)/\N.Perm (V++U)/\a5 s τ loc n am F y D/\∀(c:bm a6) (Q:ah) (P:Loc) (M:ey),hj am c=bq->a5 f τ loc u c Q P M->a5 s τ loc n c Q P M)/\
  (∀(c:bm a6) (a3:ah) (z:a3.den) (ap:Loc) (dg:ey) (f2:aj5),k6 am c=bq->a3.kT=bq->eT τ a0 c a3 z->a5 f τ loc u c a3 ap dg->aU e f a3 dg z f2->∀b∈f2,b∈U/\∀m h,y=Y (m,h)->b≠m):=by
 intro am
 induction am with
 |nil=>
  intro τ loc u a0 ex F ix ek cv d8 ad c1 H;obtain⟨rfl,rfl⟩:=eT.gz.1 H;refine⟨loc,u,ex,[],(by cases τ<;>exact⟨bn,bn,bn⟩),ek,cv,ac,λm h a=>.inl ⟨h,a,aa,aa⟩,?_,λc _ _ _ _ _ a=>by grind [vq]⟩;intro s K D z V d0 _ _ A _ O B;obtain⟨_,rfl⟩:=ff.gz.1 B;exact⟨D,V,A,λ_=>rfl,λcs a=>a.resolve_left (λc=>c cs),O,ac,(by cases τ<;>exact⟨bn,bn,bn⟩),λc _ _ _ o=>by grind [hj,nW]⟩
 |cons os am gs=>
  intro τ loc u a0 ex F ix ek cv d8 ad c1 H;cases τ<;>cases os<;>simp only[eT] at H
  case osl.idx t i=>
   obtain⟨a4,fp,H⟩:=H;obtain⟨oN,em,rfl,ek⟩:=ek;rcases ek with⟨_,rfl,_⟩|⟨g,d,f5,rfl,rfl,mc,ok,ic,lb⟩
   ·simp at fp
   have jp:i<a0.length:=(hT.1 fp).1;obtain⟨gc,lo⟩:∃gc,f5[i]?=some gc:=⟨f5[i],bi aa⟩;obtain⟨f7,i2,f3,i3⟩:=lb i a4 gc fp lo;obtain⟨ds,is,fr,or⟩:=afr lo;have rd:∀w,w<a0.length->d+w*t.size+t.size<=d+em*t.size:=λw o=>(by have:(w+1)*t.size<=em*t.size:=iY _ aa;grind);have f4:p8 f (Y (g,d+i*t.size)) f7 t.size:=(by rintro R r a;simp only[eZ,iy] at a;obtain⟨rfl,rfl⟩:=a;exact⟨f3,λx l O=>ic x aa (by grind)⟩);have kg:=d8;rw[fr] at kg;simp only[zc,l0,jS,jt,hn,not_or] at kg;obtain⟨⟨n7,f0,of⟩,kd,⟨ft,f6,ol⟩,on⟩:=kg;obtain⟨y,S,bl,U,d2,d3,d4,G,T,d5,fl⟩:=gs (loc:=Y (g,d+i*t.size)) i3 f4 ft (by rintro R r a;simp only[eZ,iy] at a;obtain⟨rfl,rfl⟩:=a;exact⟨f0,c1 g ac⟩) (λb k=>c1 b (by rw[fr];simp[k])) H;refine⟨y,S,bl,g::(ds.flatten++(U++is.flatten)),⟨g,d,_,em,f7,bn,jp,i2,f3,d2⟩,d3,d4,?_,?_,?_,λc _ _ _ _ _ a=>by cases c with|nil=>cases a|cons I c=>cases I<;>cases a⟩
   ·rw[fr];simp only[zc,l0];rw[uB] at G|-;intro b;have:=G b;simp only[ux,amL] at this|-;omega
   ·intro m h a;right;rcases T m h a with⟨r,l,_⟩|l
    ·simp only[eZ,iy] at l;rw[l.1];simp
    simp[l]
   intro s K D z V d0 bx v A d9 d6 B;simp only[ff] at B;obtain⟨nn,f8,ll,B,rfl⟩:=B;obtain rfl:nn=a4:=(by rw[fp] at ll;exact(gq ll).symm);obtain⟨n,N,C,_,_,L,an,el,co⟩:=d5 s K D z V f8 bx (by
     rintro b (a|a|⟨r,a⟩)
     ·exact v b (.inl a)
     ·exact v b (.inr (.inl (by simp[a])))
     simp only[eZ,iy] at a;exact v b (.inr (.inl (by rw[<-a.1];simp)))) A
    (by
     intro cs ro;exact d9 cs ac) d6 B
   have ce:∀m h,y=Y (m,h)->(m=g/\d+i*t.size<=h/\h+F.size<=d+i*t.size+t.size)\/m∈gc:=by
    intro m h a;rcases T m h a with⟨r,l,O,hw⟩|l
    ·simp only[eZ,iy] at l;omega
    exact .inr (G.mem_iff.2 (by simp[l]))
   have fn:=v g (.inr (.inl ac));have gf:∀q b,e q b->K q b/\c8 f s b:=λq b k=>⟨bx q b k,(v b (.inl ⟨q,k⟩)).sm (λr a=>by
    rcases ce b r a with⟨rfl,_⟩|l
    ·exact c1 b ac q k
    exact c1 b (by rw[fr];simp[l]) q k)⟩
   have mo:∀(w:X) (hv:t.den) (bs:aj5),w≠i->a0[w]?=Y hv->f5[w]?=Y bs->∀d1:ey,d1.length=t.size->fy f g (d+w*t.size) d1->fy s g (d+w*t.size) d1/\∀b∈bs,c8 f s b:=by
    intro w hv bs gl o dl d1 io hc;have rg:w<a0.length:=(hT.1 o).1;have i8:∀b∈bs,b∈ds.flatten\/b∈is.flatten:=by
     intro b k;rw[fr] at dl;rcases cT w ds.length with a|a
     ·rw[rf a] at dl;exact .inl (l1.2 ⟨bs,p7 dl,k⟩)
     rw[rh a] at dl;obtain⟨c,E⟩:∃c,w-ds.length=c+1:=⟨w-ds.length-1,aa⟩;rw[E] at dl;simp only[wS] at dl;exact .inr (l1.2 ⟨bs,p7 dl,k⟩)
    refine⟨?_,?_⟩
    ·intro x hs fs;have ii:x<d1.length:=(hT.1 fs).1;rw[fn.1]
     ·exact hc x hs fs
     intro h a;rcases ce g h a with⟨_,l,O⟩|l
     ·rcases Nat.lt_or_gt_of_ne gl with rl|rb
      ·left;have:(w+1)*t.size<=i*t.size:=iY _ aa;rw[l3,mB] at this;omega
      right;have:(i+1)*t.size<=w*t.size:=iY _ aa;rw[l3,mB] at this;omega
     exact absurd l f0
    intro b k;refine(v b (.inr (.inl ?_))).sm ?_
    ·rcases i8 b k with a|a<;>simp[a]
    intro h a;rcases ce b h a with⟨rfl,_⟩|l
    ·rcases i8 b k with a|a
     ·exact n7 a
     exact of a
    rcases i8 b k with a|a
    ·exact on b a b (.inl l) rfl
    exact ol b l b a bn
   refine⟨[.slice (Y ⟨g,d,bo⟩) a0.length em],g::(ds++N::is).flatten,⟨Y ⟨g,d,bo⟩,em,ac,.inr ⟨g,d,ds++N::is,bn,bn,?_,by simpa using ok,fn.EW ic,?_⟩⟩,ac,λ_ _=>rfl,?_,?_,⟨g,d,_,em,n,bn,jp,by rw[C.len],L g _ rfl,el⟩,?_⟩
   ·rw[fr] at mc;simpa using mc
   ·intro w hv bs o H;by_cases gl:w=i
    ·subst gl;rw[List.getElem?_set_self jp] at o;obtain rfl:=gq o;rw[rh aa,or,alf] at H;simp only[ri,eZ] at H;subst H;exact⟨n,by rw[C.len],L g _ rfl,C⟩
    rw[List.getElem?_set_ne (λa=>gl a.symm)] at o;have dl:f5[w]?=Y bs:=by
     rw[fr];rcases cT w ds.length with a|a
     ·rw[rf a] at H|-;exact H
     rw[rh a] at H|-;obtain⟨c,E⟩:∃c,w-ds.length=c+1:=⟨w-ds.length-1,aa⟩;rw[E] at H|-;simpa using H
    obtain⟨d1,io,hc,le⟩:=lb w hv bs o dl;obtain⟨lf,lk⟩:=mo w hv bs gl o dl d1 io hc;exact⟨d1,io,lf,le.mono gf lk⟩
   ·intro R r a;have gi:=(ad R r a).1;refine((cv R r a).1).sm ((v R (.inr (.inr ⟨r,a⟩))).sm ?_);intro h fT;rcases ce R h fT with⟨rfl,_⟩|l
    ·exact gi ac
    exact gi (by rw[fr];simp[l])
   ·rw[uB] at an|-;intro b;have:=an b;simp only[zc,l0,ux,amL] at this|-;omega
   intro c Q P M o E;cases c with
   |nil=>exact E
   |cons I c=>
    cases I<;>simp only[hj] at o<;>first|(cases o;done)|skip
    rename_i x;obtain⟨R,r,rt,pm,i0,l,O,hw,ge,ib⟩:=E;simp only[h4,aka,eZ,akq,ca] at l;obtain⟨⟨rfl,rfl⟩,rfl,rfl⟩:=l;by_cases l2:x=i
    ·subst l2;obtain rfl:=ge.eq f3 aa;exact⟨g,d,_,em,n,bn,O,C.len,L g _ rfl,co c Q P M o ib⟩
    have mz:a0[x]?=Y a0[x]:=bi O;have lt:f5[x]?=Y (f5[x]'(by omega)):=bi _
    obtain⟨d1,io,hc,le⟩:=lb x _ _ mz lt;obtain rfl:=ge.eq hc aa;obtain⟨lf,lk⟩:=mo x _ _ l2 mz lt i0 hw ge;exact⟨g,d,_,em,i0,bn,O,hw,lf,a5.sm le lk ib⟩
  case optr.deref t=>
   obtain⟨g,d,gc,f7,rfl,rfl,i2,f3,ic,i3⟩:=ek;simp only[jS] at d8;obtain⟨ra,op⟩:=d8;have f4:p8 f (Y (g,d)) f7 t.size:=(by rintro R r a;grind);obtain⟨y,S,bl,U,d2,d3,d4,G,T,d5,fl⟩:=gs (loc:=Y (g,d)) i3 f4 op (by grind) (λb k=>c1 b (by grind)) H;refine⟨y,S,bl,g::U,⟨g,d,f7,bn,i2,f3,d2⟩,d3,d4,?_,?_,?_,?_⟩
   rotate_left 3
   ·intro c a3 z ap dg f2 a ft d7 ci A b k;cases c with
    |nil=>cases a
    |cons I c=>
     cases I<;>first|(cases a;done)|skip
     simp only[a5] at ci;obtain⟨R,r,ps,ao,pv,no,ci⟩:=ci;simp only[h4,ale,eZ,akq,ca] at ao;obtain⟨rfl,rfl⟩:=ao;obtain rfl:=no.eq f3 aa;obtain⟨ay,J⟩:=fl c a3 z ap dg f2 a ft d7 ci A b k;exact⟨by simp[ay],J⟩
   ·rw[uB] at G|-;intro b;have:=G b;simp only[ux,amL] at this|-;omega
   ·intro m h a;right;rcases T m h a with⟨r,l,_⟩|l
    ·simp only[eZ,iy] at l;rw[l.1];simp
    simp[l]
   intro s K D z V d0 bx v A d9 d6 B;simp only[ff] at B;obtain⟨n,N,C,_,_,L,an,el,co⟩:=d5 s K D z V d0 bx (by
     rintro b (a|a|⟨r,a⟩)
     ·exact v b (.inl a)
     ·exact v b (.inr (.inl (by simp[a])))
     simp only[eZ,iy] at a;exact v b (.inr (.inl (by rw[<-a.1];simp)))) A
    (λcs _=>d9 cs ac) d6 B
   have fn:=v g (.inr (.inl ac));refine⟨[.pointer (Y ⟨g,d,bo⟩)],g::N,⟨g,d,N,n,bn,bn,C.len,L g d bn,fn.EW ic,C⟩,ac,λ_ _=>rfl,?_,?_,⟨g,d,n,bn,C.len,L g d bn,el⟩,?_⟩
   ·intro R r a;have gi:=(ad R r a).1;refine((cv R r a).1).sm ((v R (.inr (.inr ⟨r,a⟩))).sm ?_);intro h fT;rcases T R h fT with⟨ne,l,_⟩|l
    ·simp only[eZ,iy] at l;exact gi (by rw[l.1];simp)
    exact gi (gC _ (G.mem_iff.2 (by simp[l])))
   ·rw[uB] at an|-;intro b;have:=an b;simp only[ux,amL] at this|-;omega
   intro c Q P M o E;cases c with
   |nil=>exact E
   |cons I c=>
    cases I<;>simp only[hj] at o<;>first|(cases o;done)|skip
    obtain⟨R,r,i0,l,hw,ge,ib⟩:=E;simp only[h4,ale,eZ,akq,ca] at l;obtain⟨rfl,rfl⟩:=l;obtain rfl:=ge.eq f3 aa;exact⟨g,d,n,bn,C.len,L g d bn,co c Q P M o ib⟩
  case st.unst t=>
   obtain⟨y,S,bl,U,d2,d3,d4,G,T,d5,fl⟩:=gs (loc:=loc) (τ:=t) ek cv d8 ad c1 H;refine⟨y,S,bl,U,d2,d3,d4,G,T,?_,?_⟩
   rotate_left 1
   ·intro c a3 z ap dg f2 a ft d7 ci A b k;cases c with
    |nil=>cases a
    |cons I c=>
     cases I<;>first|(cases a;done)|skip
     exact fl c a3 z ap dg f2 a ft d7 ci A b k
   intro s K D z V d0 bx v A d9 d6 B;obtain⟨n,N,C,rs,gt,L,an,el,co⟩:=d5 s K D z V d0 bx v A (λcs _=>d9 cs ac) d6 B;refine⟨n,N,C,ac,gt,L,an,el,?_⟩;intro c Q P M o E;cases c with
   |nil=>
    obtain⟨rfl,rfl,rfl⟩:=a5.n4.1 E;obtain⟨_,_,a4⟩:=a5.n4.1 (co [] t loc u (by simpa[hj,nW] using o) (a5.n4.2 ⟨bn,bn,bn⟩));exact a5.n4.2 ⟨bn,bn,a4⟩
   |cons I c=>
    cases I<;>simp only[hj] at o<;>first|(cases o;done)|skip
    exact co c Q P M o E
  case pr.fst j c2=>
   obtain⟨fz,f2,rfl,l,O⟩:=ek;have lc:=l.len;have ap:=O.len;simp only[gn,nF] at lc ap;have f4:p8 f loc (u.take j.size) j.size:=λg d a=>⟨(cv g d a).1.take,λx ay J=>(cv g d a).2 x ay (by show x<d+(j.size+c2.size);omega)⟩;simp only[jt] at d8;obtain⟨kd,ft,f6⟩:=d8;obtain⟨y,S,bl,U,d2,d3,d4,G,T,d5,fl⟩:=gs (loc:=loc) l f4 kd (λg d a=>⟨λc=>(ad g d a).1 (by simp[c]),(ad g d a).2⟩) (λb k=>c1 b (by grind)) H;refine⟨y,S,bl,U++f2,d2,d3,d4,?_,?_,?_,?_⟩
   rotate_left 3
   ·intro c a3 z ap dg i1 a go d7 ci A b k;cases c with
    |nil=>cases a
    |cons I c=>
     cases I<;>first|(cases a;done)|skip
     ·obtain⟨ay,J⟩:=fl c a3 z ap dg i1 a go d7 ci A b k;exact⟨by simp[ay],J⟩
     obtain⟨bs,C,L⟩:=aU.sub (p:=c) O d7 ci;have f1:b∈f2:=L b (by rw[<-aU.uniq go A C];exact k);refine⟨by simp[f1],λm h fp a4=>?_⟩;subst a4;rcases T b h fp with⟨r,ao,_⟩|ao
     ·exact(ad b r ao).1 (by simp[f1])
     exact f6 b (G.mem_iff.2 (by simp[ao])) b f1 bn
   ·rw[uB] at G|-;intro b;have:=G b;simp only[ux] at this|-;omega
   ·intro m h a;rcases T m h a with⟨r,ay,J,hi⟩|ay
    ·exact .inl ⟨r,ay,J,by show h+F.size<=r+(j.size+c2.size);omega⟩
    exact .inr (by simp[ay])
   intro s K D z V d0 bx v A d9 d6 B;simp only[ff] at B;obtain⟨f8,B,rfl⟩:=B;obtain⟨n,N,C,_,gt,L,an,el,co⟩:=d5 s K D z V f8 bx (by
     rintro b (a|a|a)
     ·exact v b (.inl a)
     ·exact v b (.inr (.inl (by simp[a])))
     exact v b (.inr (.inr a))) A (λcs _=>d9 cs ac) d6 B
   have ce:∀m h,y=Y (m,h)->(∃d,loc=Y (m,d)/\d<=h/\h+F.size<=d+j.size)\/m∈fz:=λm h a=>(T m h a).imp id (λc=>G.mem_iff.2 (by simp[c]));have gf:∀q b,e q b->K q b/\c8 f s b:=λq b k=>⟨bx q b k,(v b (.inl ⟨q,k⟩)).sm (λr a=>by
    rcases ce b r a with⟨d,c,_⟩|c
    ·exact(ad b d c).2 q k
    exact c1 b (by simp[c]) q k)⟩
   have mt:∀b∈f2,c8 f s b:=λb k=>(v b (.inr (.inl (by simp[k])))).sm (λh a=>by
    rcases ce b h a with⟨d,c,_⟩|c
    ·exact(ad b d c).1 (by simp[k])
    exact f6 b c b k bn)
   have nd:=C.len;refine⟨n++u.drop j.size,N++f2,⟨N,f2,bn,?_,?_⟩,ac,?_,?_,?_,(by
    show a5 s j loc ((n++u.drop j.size).take j.size) am F y D;rw[uD aa,fN aa];exact el),?_⟩
   ·rw[uD aa,fN aa];exact C
   ·rw[sA aa,rc aa,ho];exact O.mono gf mt
   ·intro ay J;rw[gt ay J,jU]
   ·intro g d a;refine(L g d a).append ?_;rw[nd];intro x hs fs;have fn:=v g (.inr (.inr ⟨d,a⟩));have ii:x<(u.drop j.size).length:=(hT.1 fs).1;simp only[nF] at ii;rw[fn.1]
    ·exact((cv g d a).1.drop) x hs fs
    intro h fT;rcases ce g h fT with⟨ne,ay,J,hi⟩|c
    ·rw[a] at ay;simp only[eZ,iy,alz] at ay;omega
    exact absurd (by simp[c]) (ad g d a).1
   ·rw[uB] at an|-;intro b;have:=an b;simp only[ux] at this|-;omega
   intro c Q P M o E;have ao:(n++u.drop j.size).take j.size=n:=(by rw[uD aa,fN aa]);have f9:(n++u.drop j.size).drop j.size=u.drop j.size:=(by rw[sA aa,rc aa,ho]);cases c with
   |nil=>
    obtain⟨rfl,rfl,rfl⟩:=a5.n4.1 E;obtain⟨_,_,a4⟩:=a5.n4.1 (co [] j loc (u.take j.size) (by simpa[hj,nW] using o) (a5.n4.2 ⟨bn,bn,bn⟩));exact a5.n4.2 ⟨bn,bn,by rw[a4,jU]⟩
   |cons I c=>
    cases I<;>simp only[hj] at o<;>first|(cases o;done)|skip
    ·show a5 s j loc ((n++u.drop j.size).take j.size) c Q P M;rw[ao];exact co c Q P M o E
    show a5 s c2 (loc.map λc=>(c.1,c.2+j.size)) ((n++u.drop j.size).drop j.size) c Q P M;rw[f9];exact a5.sm O mt E
  case pr.snd j c2=>
   obtain⟨fz,f2,rfl,l,O⟩:=ek;have lc:=l.len;have ap:=O.len;simp only[gn,nF] at lc ap;have f4:p8 f (loc.map λc=>(c.1,c.2+j.size)) (u.drop j.size) c2.size:=by
    intro g d a;cases loc with
    |none=>grind
    |some c=>
     obtain⟨pl,av⟩:=c;simp only[ji,eZ,iy] at a;obtain⟨rfl,rfl⟩:=a;exact⟨(cv _ _ rfl).1.drop,λx ay J=>(cv _ _ rfl).2 x aa (by show x<av+(j.size+c2.size);omega)⟩
   simp only[jt] at d8;obtain⟨kd,ft,f6⟩:=d8;have f0:∀g d,(loc.map λc=>(c.1,c.2+j.size))=Y (g,d)->∃av,loc=Y (g,av)/\d=av+j.size:=by
    intro g d a;cases loc with
    |none=>grind
    |some c=>
     grind
   obtain⟨y,S,bl,U,d2,d3,d4,G,T,d5,fl⟩:=gs (loc:=loc.map λc=>(c.1,c.2+j.size)) O f4 ft (λg d a=>by grind) (λb k=>c1 b (by grind)) H;refine⟨y,S,bl,U++fz,d2,d3,d4,?_,?_,?_,?_⟩
   rotate_left 3
   ·intro c a3 z ap dg i1 a go d7 ci A b k;cases c with
    |nil=>cases a
    |cons I c=>
     cases I<;>first|(cases a;done)|skip
     ·obtain⟨bs,C,L⟩:=aU.sub (p:=c) l d7 ci;have f1:b∈fz:=L b (by rw[<-aU.uniq go A C];exact k);refine⟨by simp[f1],λm h fp a4=>?_⟩;subst a4;rcases T b h fp with⟨r,ao,_⟩|ao
      ·obtain⟨av,f9,_⟩:=f0 _ _ ao;exact(ad b av f9).1 (by simp[f1])
      exact f6 b f1 b (G.mem_iff.2 (by simp[ao])) rfl
     obtain⟨ay,J⟩:=fl c a3 z ap dg i1 a go d7 ci A b k;exact⟨by simp[ay],J⟩
   ·rw[uB] at G|-;intro b;have:=G b;simp only[ux] at this|-;omega
   ·intro m h a;rcases T m h a with⟨r,ay,J,hi⟩|ay
    ·obtain⟨av,hr,rfl⟩:=f0 _ _ ay;exact .inl ⟨av,hr,aa,by show h+F.size<=av+(j.size+c2.size);omega⟩
    exact .inr (by simp[ay])
   intro s K D z V d0 bx v A d9 d6 B;simp only[ff] at B;obtain⟨f8,B,rfl⟩:=B;obtain⟨n,N,C,_,gt,L,an,el,co⟩:=d5 s K D z V f8 bx (by
     rintro b (a|a|⟨d,a⟩)
     ·exact v b (.inl a)
     ·exact v b (.inr (.inl (by simp[a])))
     obtain⟨av,hr,rfl⟩:=f0 _ _ a;exact v b (.inr (.inr ⟨av,hr⟩))) A (λcs _=>d9 cs ac) d6 B
   have ce:∀m h,y=Y (m,h)->(∃d,loc=Y (m,d)/\d+j.size<=h/\h+F.size<=d+j.size+c2.size)\/m∈f2:=λm h a=>by
    rcases T m h a with⟨r,ay,J,hi⟩|c
    ·obtain⟨av,hr,rfl⟩:=f0 _ _ ay;exact .inl ⟨av,hr,J,hi⟩
    exact .inr (G.mem_iff.2 (by simp[c]))
   have gf:∀q b,e q b->K q b/\c8 f s b:=λq b k=>⟨bx q b k,(v b (.inl ⟨q,k⟩)).sm (λr a=>by
    rcases ce b r a with⟨d,c,_⟩|c
    ·exact(ad b d c).2 q k
    exact c1 b (by simp[c]) q k)⟩
   have mp:∀b∈fz,c8 f s b:=λb k=>(v b (.inr (.inl (by simp[k])))).sm (λh a=>by
    rcases ce b h a with⟨d,c,_⟩|c
    ·exact(ad b d c).1 (by simp[k])
    exact f6 b k b c bn)
   have nd:=C.len;refine⟨u.take j.size++n,fz++N,⟨fz,N,bn,?_,?_⟩,ac,?_,?_,?_,(by
    show a5 s c2 (loc.map λc=>(c.1,c.2+j.size)) ((u.take j.size++n).drop j.size) am F y D;rw[sA (by simp;omega),rc (by simp;omega),ho];exact el),?_⟩
   ·rw[uD (by simp;omega),aox,aoy];exact l.mono gf mp
   ·rw[sA (by simp;omega),rc (by simp;omega),ho];exact C
   ·intro ay J;rw[gt (by rw[ay];rfl) J,jU]
   ·intro g d a;have fn:=v g (.inr (.inr ⟨d,a⟩));have nx:fy s g d (u.take j.size):=by
     intro x hs fs;have ii:x<(u.take j.size).length:=(hT.1 fs).1;simp only[gn] at ii;rw[fn.1]
     ·exact((cv g d a).1.take) x hs fs
     intro h fT;rcases ce g h fT with⟨ne,ay,J,hi⟩|c
     ·rw[a] at ay;simp only[eZ,iy,alz] at ay;omega
     exact absurd (by simp[c]) (ad g d a).1
    refine nx.append ?_;have:=L g (d+j.size) (by rw[a];rfl);rwa[gn,hN aa]
   ·rw[uB] at an|-;intro b;have:=an b;simp only[ux] at this|-;omega
   intro c Q P M o E;have ao:(u.take j.size++n).take j.size=u.take j.size:=(by rw[uD (by simp;omega),aox,aoy]);have f9:(u.take j.size++n).drop j.size=n:=(by rw[sA (by simp;omega),rc (by simp;omega),ho]);cases c with
   |nil=>
    obtain⟨rfl,rfl,rfl⟩:=a5.n4.1 E;obtain⟨_,_,a4⟩:=a5.n4.1 (co [] c2 (loc.map λc=>(c.1,c.2+j.size)) (u.drop j.size) (by simpa[hj,nW] using o) (a5.n4.2 ⟨bn,bn,bn⟩));exact a5.n4.2 ⟨bn,bn,by rw[a4,jU]⟩
   |cons I c=>
    cases I<;>simp only[hj] at o<;>first|(cases o;done)|skip
    ·show a5 s j loc ((u.take j.size++n).take j.size) c Q P M;rw[ao];exact a5.sm l mp E
    show a5 s c2 (loc.map λc=>(c.1,c.2+j.size)) ((u.take j.size++n).drop j.size) c Q P M;rw[f9];exact co c Q P M o E
theorem EV (i:bm a6) {loc:Loc} {u:d.den} {τ':ah} {y:τ'.den} (D:aU e f d h u k) (E:p8 f loc h d.size) (F:k.Nodup) (G:∀a b,loc=Y (a,b)->a∉k/\∀g,¬e g a) (H:∀a∈k,∀g,¬e g a) (I:eT d u i τ' y):∃c l r o,a5 f d loc h i τ' c l/\aU e f τ' l y r/\p8 f c l τ'.size/\k.Perm (r++o)/\(∀q s,c=Y (q,s)->(∃b,loc=Y (q,b)/\b<=s/\s+τ'.size<=b+d.size)\/q∈o)/\(∀(
   j:bC) (p:eE->X->Prop) (m:ey) (B:τ'.den) (w:aj5) (A:d.den),
   (∀g a,e g a->p g a)->(∀a,(∃g,e g a)\/a∈o\/(∃b,loc=Y (a,b))->sn f j c τ'.size a)->
   aU p j τ' m B w->(c=bo->i≠[]->m=l)->(∀a b,c=Y (a,b)->fy j a b m)->ff d u i τ' B A->
   ∃n x,aU p j d n A x/\(i=[]->n=m)/\(loc=bo->(c≠bo\/m=l)->n=h)/\(∀a b,loc=Y (a,b)->fy j a b n)/\x.Perm (w++o)/\a5 j d loc n i τ' c m/\∀(t:bm a6) (C:ah) (z:Loc) (v:ey),hj i t=bq->a5 f d loc h t C z v->a5 j d loc n t C z v):=by
 obtain⟨c,l,r,o,J,K,L,M,N,O,_⟩:=AS i D E F G H I;grind
def be (a c:X->Prop):eE->X->Prop
 |.bg=>a
 |.c9=>λb=>a b\/c b
theorem nm {a:X->Prop} {d:eE} (c:be a j d b):a b\/j b:=by cases d;exact .inl c;exact c
inductive ak where
 |dead
 |val (τ:ah) (x:τ.den)
 |ref (id:X) (p:bm a6)
 |addr (id:X) (p:bm a6)
 |view (id:X) (p:bm a6) (lo hi:X)
 |app (id:X) (p:bm a6) (τ:ah) (ys:bm τ.den) (own:aj5)
 |dh (v:Value)
 |fj (l:bm ak)
 |agg (l:bm ak)
 |eA (f:X) (l:bm ak)
 |ent (id:X) (p:bm a6) (k:Z)
 |hG (a:ak)
variable{V:ak}
abbrev aG:=(a:ah)×a.den
variable{u:bm (X×aG)}{P:aG}
structure aQ where
 g:bm (X×ak)
 h:bm (X×aG)
variable{z:aQ}
def aq {a:Type}:bm (X×a)->X->bv a
 |[],_=>bo
 |(k,v)::r,n=>bif bH k n then Y v else aq r n
theorem di (b:X) (d:y) (c:bm (X×y)) (a:X):aq ((b,d)::c) a=if b=a then Y d else aq c a:=by
 show(bif bH b a then Y d else aq c a)=_;by_cases e:b=a
 ·simp_all
 rw[au e];grind [akR]
def gt (a:bm (X×ak)) (b:X):ak:=match aq a b with|some c=>c|none=>.dead
structure e4 where
 I0:X->Prop
 B:X->Prop
 F0:X->Prop
 w0:bC
 n:X
 pin:aj5
 vs:X->Value
variable{U:e4}
def e4.ok (a:e4) (d:X):Prop:=d<a.n/\d∉a.pin
inductive cP (M:eE->X->Prop) (w:bC) (h:bm (X×aG)) (rt:X->ey) (fp:X->aj5):ak->Value->Prop
 |dead (v:Value):cP M w h rt fp .dead v
 |dh (v:Value):cP M w h rt fp (.dh v) v
 |val {τ:ah} {x:τ.den} {cs:ey} (r:aU M w τ cs x []):cP M w h rt fp (.val τ x) (c0 τ cs)
 |ref {id:X} {p:bm a6} {t:aG} {τ':ah} {loc:Loc} {cs:ey} (px:aq h id=Y t) (E7:a5 w t.1 bo (rt id) p τ' loc cs):cP M w h rt fp (.ref id p) (c0 τ' cs)
 |addr {id:X} {p:bm a6} {t:aG} {τ':ah} {b o:X} {cs:ey} (px:aq h id=Y t) (E7:a5 w t.1 bo (rt id) p τ' (Y (b,o)) cs):cP M w h rt fp (.addr id p) (.pointer (Y ⟨b,o,bo⟩))
 |view {id:X} {p:bm a6} {lo hi:X} {t:aG} {τ':ah} {loc:Loc} {b o len cap:X} (px:aq h id=Y t) (E7:a5 w t.1 bo (rt id) p (.osl τ') loc [.slice (Y ⟨b,o,bo⟩) len cap]) (AX:lo<=hi) (OO:hi<=len) (agY:len<=cap):cP M w h rt fp (.view id p lo hi) (.slice (Y ⟨b,if cap=lo then o else o+lo*τ'.size,bo⟩) (hi-lo) (cap-lo))
 |mv (id:X) (p:bm a6):cP M w h rt fp (.view id p 0 0) (.slice bo 0 0)
 |app {id:X} {p:bm a6} {τ:ah} {ys:bm τ.den} {own:aj5} {t:aG} {loc:Loc} {uS:ey} {xs:bm τ.den} {f1 f2:aj5} {v:Value} (px:aq h id=Y t) (ag2:τ.kT=bq) (E7:a5 w t.1 bo (rt id) p (.osl τ) loc uS) (OR:eT t.1 t.2 p (.osl τ) xs) (AX:aU M w (.osl τ) uS xs f1) (ag0:∀b∈f1,b∈fp id) (OO:aU M w (.osl τ) [v] (xs++ys) f2) (ag5:∀i∈own,i≠id/\∃u,aq h i=Y u) (ag8:∀b∈f2,b∈f1\/∃i∈own,b∈fp i) (ag3:f2.Nodup):cP M w h rt fp (.app id p τ ys own) v
 |fj {l:bm ak} {vs:ev} (E6:l.length=vs.size) (E5:∀(i:X) (a:ak) (v:Value),l[i]?=Y a->vs[i]?=Y v->cP M w h rt fp a v):cP M w h rt fp (.fj l) (.tuple vs)
 |agg {l:bm ak} {vs:ey} (E6:l.length=vs.length) (E5:∀(i:X) (a:ak) (v:Value),l[i]?=Y a->vs[i]?=Y v->cP M w h rt fp a v):cP M w h rt fp (.agg l) (.agg (vs.map λv=>v.cells.toList).flatten.toArray)
 |ent {id:X} {p:bm a6} {k:Z} {t:aG} {τ':ah} {loc:Loc} {b c i:X} {e8:bT ch} {e:ch} (px:aq h id=Y t) (E7:a5 w t.1 bo (rt id) p (.mp τ') loc [.map (Y b)]) (E4:b∈fp id) (OS:jm w b=Y (e8,c)) (hi:e8[i]?=Y e) (ag1:e.key=.int .i64 k):cP M w h rt fp (.ent id p k) (.int .i64 (e.born:Z))
 |eA {f:X} {l:bm ak} {vs:ev} (E6:l.length=vs.size) (E5:∀(i:X) (a:ak) (v:Value),l[i]?=Y a->vs[i]?=Y v->cP M w h rt fp a v):cP M w h rt fp (.eA f l) (.func (.func f) #[] vs)
 |hG {a:ak} {v:Value} {b:X} (E4:M .bg b) (hc:w.cell? ⟨b,0,bo⟩=Y v) (ag4:v.oneCell'=bq) (I2:cP M w h rt fp a v):cP M w h rt fp (.hG a) (.pointer (Y ⟨b,0,bo⟩))
structure cK (C:e4) (st:aQ) (Ll:ev) (w:bC) (I:X->Prop) (rt:X->ey) (fp:X->aj5):Prop where
 n:Ll.size=C.n
 i0:∀b,C.I0 b->I b
 i1:∀b,I b->C.I0 b\/C.w0.heap.size<=b\/C.F0 b
 ib:∀b,I b\/C.B b->b<w.heap.size
 tree:∀id t,aq st.h id=Y t->aU (be I C.B) w t.1 (rt id) t.2 (fp id)/\(fp id).Nodup/\∀b∈fp id,¬I b/\¬C.B b/\b<w.heap.size/\(C.w0.heap.size<=b\/C.F0 b)
 dis:∀i j t u,aq st.h i=Y t->aq st.h j=Y u->i≠j->∀b∈fp i,b∉fp j
 tmp:∀k,cP (be I C.B) w st.h rt fp (gt st.g k) (Ll.getD k bV)
 frame:∀b,b<C.w0.heap.size->¬C.F0 b->w.heap[b]?=C.w0.heap[b]?
 evo:∀b,b<C.w0.heap.size->kY C.w0 w b
 size:C.w0.heap.size<=w.heap.size
 os:w.os=C.w0.os
 tape:w.tape=C.w0.tape
 output:w.output=C.w0.output
 pin:∀k∈C.pin,Ll.getD k bV=C.vs k
def gM (a:e4) (e:aQ) (f:ev) (g:bC):Prop:=∃b d c,cK a e f g b d c
structure hz (w w':bC):Prop where
 os:w'.os=w.os
 tape:w'.tape=w.tape
 output:w'.output=w.output
 size:w.heap.size<=w'.heap.size
 heap:∀b,b<w.heap.size->w'.heap[b]?=w.heap[b]?
def hz.refl (a:bC):hz a a:=⟨bn,bn,bn,bd _,λ_ _=>rfl⟩
theorem hz.trans {c d e:bC} (a:hz c d) (b:hz d e):hz c e:=
 ⟨b.os.trans a.os,b.tape.trans a.tape,b.output.trans a.output,c4 a.size b.size,λg f=>(b.heap g (jh f a.size)).trans (a.heap g f)⟩
def hz.drew {b c:bC} (a:hz b c):hz b c.drew:=⟨a.os,a.tape,a.output,a.size,a.heap⟩
theorem hz.alloc (a:bC) (b:Obj):hz a (a.alloc b):=⟨bn,bn,bn,ac,λc d=>by
 show(a.heap.push b)[c]?=_;grind⟩
theorem cP.mono {u x:eE->X->Prop} {r t:bC} {v z:bm (X×aG)} {w D:X->ey} {s y:X->aj5} (n:∀B c,u B c->x B c/\c8 r t c) (d:∀id m,aq v id=Y m->aU u r m.1 (w id) m.2 (s id)/\∀c∈s id,c8 r t c) {j:ak} {b:Value} (F:cP u r v w s j b) (o:∀id m,aq v id=Y m->aq z id=Y m/\D id=w id/\y id=s id):cP x t z D y j b:=by
 induction F with
 |dead b=>exact .dead b
 |dh b=>exact .dh b
 |val S=>exact .val (S.mono n ac)
 |ref a g=>
  obtain⟨h,i,_⟩:=o _ _ a;exact .ref h (by rw[i];exact g.sm (d _ _ a).1 (d _ _ a).2)
 |addr a g=>
  obtain⟨h,i,_⟩:=o _ _ a;exact .addr h (by rw[i];exact g.sm (d _ _ a).1 (d _ _ a).2)
 |mv id C=>exact .mv id C
 |view a g e f E=>
  obtain⟨h,i,_⟩:=o _ _ a;exact .view h (by rw[i];exact g.sm (d _ _ a).1 (d _ _ a).2) e f E
 |@app id C τ av an m am T ap U f2 b a N g J e H f V ad O=>
  obtain⟨h,i,R⟩:=o _ _ a;obtain⟨Q,A⟩:=d _ _ a;have I:∀c∈f2,c8 r t c:=λc k=>(by grind);refine .app h N (by rw[i];exact g.sm Q A) J (e.mono n (λc k=>A c (H c k))) (by grind) (f.mono n I) ?_ ?_ O
  ·grind
  grind
 |ent a g k M K L=>
  obtain⟨h,i,R⟩:=o _ _ a;exact .ent h (by rw[i];exact g.sm (d _ _ a).1 (d _ _ a).2) (by grind) (by rw[((d _ _ a).2 _ k).2];exact M) K L
 |fj p _ l=>exact .fj p (λq j b e f=>l q j b e f)
 |agg p _ l=>exact .agg p (λq j b e f=>l q j b e f)
 |eA p _ l=>exact .eA p (λq j b e f=>l q j b e f)
 |hG k G P _ l=>exact .hG (n _ _ k).1 (by rw[((n _ _ k).2.1 0).1];exact G) P l
def aV (c:bm (X×ak)):bM->ak
 |.tmp g=>gt c g
 |.const (.int d e)=>.val (.int d) e
 |.const (.bool a)=>.val .bool a
 |.const (.string f)=>.val .str f
 |.const h=>.dh h
 |.func b=>.eA b []
 |.global _=>.dead
def cP.int {c:eE->X->Prop} {g:bC} {e:bm (X×aG)} {f:X->ey} {d:X->aj5} (a:cr) (b:Z):cP c g e f d (.val (.int a) b) (.int a b):=
 .val (τ:=.int a) (cs:=[.int a b]) ⟨bn,bn⟩
def cP.bool {b:eE->X->Prop} {f:bC} {d:bm (X×aG)} {e:X->ey} {c:X->aj5} (a:bA):cP b f d e c (.val .bool a) (.bool a):=
 .val (τ:=.bool) (cs:=[.bool a]) ⟨bn,bn⟩
def cP.str {b:eE->X->Prop} {f:bC} {d:bm (X×aG)} {e:X->ey} {c:X->aj5} (a:ByteArray):cP b f d e c (.val .str a) (.string a):=
 .val (τ:=.str) (cs:=[.string a]) ⟨bn,bn⟩
def cK.aV {e:e4} {c:aQ} {a:Act} {l:bC} {f:X->Prop} {j:X->ey} {i:X->aj5} (m:cK e c a.tmps l f j i) (d:bM):cP (be f e.B) l c.h j i (aV c.g d) (a.eval d):=by
 cases d with
 |tmp o=>exact m.tmp o
 |const p=>
  cases p<;>simp only[jy.aV,Act.eval]
  case int k n=>exact .int k n
  case bool b=>exact .bool b
  case string s=>exact .str s
  all_goals exact .dh _
 |func q=>exact .eA (vs:=#[]) ac ac
 |global r=>exact .dead _
theorem kR {d:Type}:∀(c b:bm (X×d)) (a:X),aq (c++b) a=(aq c a).or (aq b a)
 |[],b,a=>by simp[aq]
 |(k,v)::c,b,a=>by rw[kF,di,di,kR c b a];grind
theorem jk (c:X) (b:ak) (d:bm (X×ak)) (a:X):gt ((c,b)::d) a=if c=a then b else gt d a:=by grind [di,gt]
theorem cK.put (a:cK U z O f j r p) (e:U.ok b) {av:ak} {v:Value} (l:cP (be j U.B) f z.h r p av v):cK U ⟨(b,av)::z.g,z.h⟩ (O.setIfInBounds b v) f j r p where
 n:=by simpa using a.n
 i0:=a.i0
 i1:=a.i1
 ib:=a.ib
 tree:=a.tree
 dis:=a.dis
 tmp:=λc=>by
  show cP _ _ _ _ _ (gt ((b,av)::z.g) c) _;unfold gt;rw[di];have k:b<O.size:=(by rw[a.n];exact e.1);by_cases d:b=c
  ·simp_all
  rw[au d];have:(O.setIfInBounds b v).getD c bV=O.getD c undef:=(by simp_all);rw[this];exact a.tmp c
 frame:=a.frame
 evo:=a.evo
 size:=a.size
 os:=a.os
 tape:=a.tape
 output:=a.output
 pin:=λc d=>by have:b≠c:=λi=>e.2 (i▸d);rw[<-a.pin c d];simp_all
structure wW (C:e4) (st:aQ) (w w':bC) (I':X->Prop) (new:bm (X×aG)) (rtn:X->ey) (fpn:X->aj5):Prop where
 tree:∀id t,aq new id=Y t->aq st.h id=bo/\aU (be I' C.B) w' t.1 (rtn id) t.2 (fpn id)/\(fpn id).Nodup/\∀b∈fpn id,w.heap.size<=b/\b<w'.heap.size/\¬I' b
 dis:∀i j t u,aq new i=Y t->aq new j=Y u->i≠j->∀b∈fpn i,b∉fpn j
def wW.nil:wW U z f m j [] r p:=
 ⟨(λ_ _ a=>by cases a),(λ_ _ _ _ a=>by cases a)⟩
theorem wW.one {C:e4} {st:aQ} {e w':bC} {I':X->Prop} {id:X} {t:aG} {cs:ey} {f:aj5} (m:aq st.h id=bo) (n:aU (be I' C.B) w' t.1 cs t.2 f) (k:f.Nodup) (j:∀b∈f,e.heap.size<=b/\b<w'.heap.size/\¬I' b):wW C st e w' I' [(id,t)] (λ_=>cs) (λ_=>f) where
 tree:=λg i a=>by
  rw[di] at a;split at a
  ·grind
  cases a
 dis:=λg o p i c d l=>by
  rw[di] at c d;split at c
  ·split at d
   ·omega
   cases d
  cases c
def fk (d:bm (X×aG)) {a:Type} (b c:X->a):X->a:=λid=>match aq d id with|some _=>b id|none=>c id
theorem cK.ext {I':X->Prop} {rtn:X->ey} {fpn:X->aj5} (d:cK U z O f j r p) (e:hz f m) (y:∀a,j a->I' a) (A:∀a,I' a->j a\/(f.heap.size<=a/\a<m.heap.size)) {new:bm (X×aG)} (s:wW U z f m I' new rtn fpn):cK U ⟨z.g,new++z.h⟩ O m I' (fk new rtn r) (fk new fpn p):=by
 have I:∀w a,be j U.B w a->be I' U.B w a/\c8 f m a:=λw a b=>by
  refine⟨?_,.of_heap (e.heap a (d.ib a (nm b)))⟩;cases w
  ·exact y a b
  exact b.imp (y a) id
 have S:∀id c,aq z.h id=Y c->aq (new++z.h) id=Y c/\fk new rtn r id=r id/\fk new fpn p id=p id:=λid c k=>by
  have:aq new id=bo:=by
   cases P:aq new id with
   |none=>rfl
   |some l=>have:=(s.tree id l P).1;grind
  grind [kR,fk]
 have C:∀id c,aq (new++z.h) id=Y c->(aq new id=Y c/\fk new rtn r id=rtn id/\fk new fpn p id=fpn id)\/(aq z.h id=Y c/\fk new rtn r id=r id/\fk new fpn p id=p id):=λid c k=>(by grind [kR,aq,fk]);have J:∀id c,aq z.h id=Y c->∀a∈p id,c8 f m a:=λid c k a b=>.of_heap (e.heap a ((d.tree id c k).2.2 a b).2.2.1);refine{n:=d.n,i0:=λa b=>y a (d.i0 a b),i1:=?_,ib:=?_,tree:=?_,dis:=?_,tmp:=?_,frame:=?_,evo:=λa b=>(d.evo a b).trans (.of_heap (e.heap a (jh b d.size))),size:=c4 d.size e.size,os:=e.os.trans d.os,tape:=e.tape.trans d.tape,output:=e.output.trans d.output,pin:=d.pin}
 ·intro a b;rcases A a b with b|⟨b,_⟩
  ·exact d.i1 a b
  exact .inr (.inl (c4 d.size b))
 ·intro a b;rcases b with b|b
  ·rcases A a b with b|⟨_,b⟩
   ·exact jh (d.ib a (.inl b)) e.size
   omega
  exact jh (d.ib a (.inr b)) e.size
 ·intro id c k;rcases C id c k with⟨i,x,o⟩|⟨i,x,o⟩
  ·obtain⟨_,ay,D,E⟩:=s.tree id c i;rw[x,o];refine⟨ay,D,λa b=>?_⟩;obtain⟨F,G,H⟩:=E a b;exact⟨H,λM=>by have:=d.ib a (.inr M);omega,G,.inl (c4 d.size F)⟩
  obtain⟨ay,D,E⟩:=d.tree id c i;rw[x,o];refine⟨ay.mono I (J id c i),D,λa b=>?_⟩;obtain⟨F,G,H,aS⟩:=E a b;exact⟨λq=>(A a q).elim F (λV=>by omega),G,jh H e.size,aS⟩
 ·intro t u c l Q R K a b;rcases C t c Q with⟨i,_,o⟩|⟨i,_,o⟩<;>rcases C u l R with⟨v,_,L⟩|⟨v,_,L⟩<;>rw[o] at b<;>rw[L]
  ·exact s.dis t u c l i v K a b
  ·intro q;have:=((s.tree t c i).2.2.2 a b).1;have:=((d.tree u l v).2.2 a q).2.2.1;omega
  ·intro q;have:=((s.tree u l v).2.2.2 a q).1;have:=((d.tree t c i).2.2 a b).2.2.1;omega
  exact d.dis t u c l i v K a b
 ·intro T;exact(d.tmp T).mono I (λid c k=>⟨(d.tree id c k).1,J id c k⟩) S
 intro a b N;rw[e.heap a (jh b d.size)];exact d.frame a b N
def cK.X2 (a:cK U z O f j r p) (b:hz f m):cK U z O m j r p:=by have:=a.ext (rtn:=r) (fpn:=p) b (λ_ a=>a) (λ_ a=>.inl a) (new:=[]) .nil;exact this
def pd:bm (X×ak)->aQ->Prop
 |[],_=>True
 |(k,av)::r,st=>gt st.g k=av/\pd r st
def pe:bm (X×aG)->aQ->Prop
 |[],_=>True
 |(k,t)::r,st=>aq st.h k=Y t/\pe r st
def pd.get {b:bm (X×ak)} (c:pd b z):∀a,gt b a=.dead\/gt b a=gt z.g a:=by
 induction b with
 |nil=>exactλa=>.inl bn
 |cons f b e=>
  obtain⟨i,h⟩:=f;intro a;rw[jk];split
  ·rename_i d;subst d;exact .inr c.1.symm
  exact e c.2 a
def pe.get (c:pe u z):∀a b,aq u a=Y b->aq z.h a=Y b:=by
 induction u with
 |nil=>intro a b c;cases c
 |cons g u f=>
  obtain⟨j,i⟩:=g;intro a b d;rw[di] at d;split at d
  ·rename_i e;subst e;rw[<-d];exact c.1
  exact f c.2 a b d
mutual
def ak.ids:ak->aj5
 |.dead|.val _ _|.dh _=>[]
 |.ref id _|.addr id _|.view id _ _ _|.ent id _ _=>[id]
 |.app id _ _ _ c=>id::c
 |.fj a|.agg a|.eA _ a=>ak.oJ a
 |.hG b=>b.ids
def ak.oJ:bm ak->aj5
 |[]=>[]
 |a::b=>a.ids++ak.oJ b
end
theorem ak.Be {l:bm ak} {i:X} (a:l[i]?=Y V) {id:X} (b:id∈V.ids):id∈ak.oJ l:=by
 induction l generalizing i with
 |nil=>grind
 |cons e d c=>
  grind [ak.oJ]
theorem cP.tL {x:eE->X->Prop} {z:bm (X×aG)} {D:X->ey} {y:X->aj5} (s:∀B b,e B b->x B b/\c8 f m b) (F:cP e f u r p V R) (d:∀id∈V.ids,∀w,aq u id=Y w->aq z id=Y w/\D id=r id/\y id=p id/\aU e f w.1 (r id) w.2 (p id)/\∀b∈p id,c8 f m b):cP x m z D y V R:=by
 induction F with
 |dead R=>exact .dead R
 |dh R=>exact .dh R
 |val T=>exact .val (T.mono s ac)
 |ref h g=>
  obtain⟨i,j,_,o,k⟩:=d _ (by simp[ak.ids]) _ h;exact .ref i (by rw[j];exact g.sm o k)
 |addr h g=>
  obtain⟨i,j,_,o,k⟩:=d _ (by simp[ak.ids]) _ h;exact .addr i (by rw[j];exact g.sm o k)
 |mv id C=>exact .mv id C
 |view h g a c E=>
  obtain⟨i,j,_,o,k⟩:=d _ (by simp[ak.ids]) _ h;exact .view i (by rw[j];exact g.sm o k) a c E
 |@app id C a4 a3 av w ap U a0 ad f2 R h N g J a H c am an O=>
  obtain⟨i,j,S,Q,A⟩:=d _ (by simp[ak.ids]) _ h;have I:∀b∈f2,c8 f m b:=λb l=>(by grind [ak.ids]);refine .app i N (by rw[j];exact g.sm Q A) J (a.mono s (λb l=>A b (H b l))) (by grind) (c.mono s I) ?_ ?_ O
  ·grind [ak.ids]
  grind [ak.ids]
 |ent h g l M K L=>
  obtain⟨i,j,S,o,k⟩:=d _ (by simp[ak.ids]) _ h;exact .ent i (by rw[j];exact g.sm o k) (by grind) (by rw[(k _ l).2];exact M) K L
 |fj t _ n=>exact .fj t (λv V R a c=>n v V R a c (λid q=>d id (ak.Be a q)))
 |agg t _ n=>exact .agg t (λv V R a c=>n v V R a c (λid q=>d id (ak.Be a q)))
 |eA t _ n=>exact .eA t (λv V R a c=>n v V R a c (λid q=>d id (ak.Be a q)))
 |hG l G P _ n=>exact .hG (s _ _ l).1 (by rw[((s _ _ l).2.1 0).1];exact G) P (n λid q=>d id (by grind [ak.ids]))
def cK.zI {o:aQ} (a:cK U o O f j r p) (v:pd z.g o) (d:pe z.h o) (w:∀c,∀id∈(gt z.g c).ids,(aq z.h id).isSome=bq):cK U z O f j r p where
 n:=a.n
 i0:=a.i0
 i1:=a.i1
 ib:=a.ib
 tree:=λid b e=>a.tree id b (d.get id b e)
 dis:=λs t b i m x=>a.dis s t b i (d.get s b m) (d.get t i x)
 tmp:=λc=>by
  rcases v.get c with l|l
  ·rw[l];exact .dead _
  have:=w c;rw[l] at this|-;refine(a.tmp c).tL (λy k u=>⟨u,c8.refl f k⟩) (λid m b e=>?_);obtain⟨i,q⟩:=GZ.1 (this id m);have:=d.get id i q;rw[e] at this;obtain rfl:=gq this;exact⟨q,bn,bn,(a.tree id b e).1,λk _=>c8.refl f k⟩
 frame:=a.frame
 evo:=a.evo
 size:=a.size
 os:=a.os
 tape:=a.tape
 output:=a.output
 pin:=a.pin
def mN (a:bm (X×ak)) (b:bm (X×aG)):bA:=a.all λc=>c.2.ids.all λid=>(aq b id).isSome
theorem mN.get {a:bm (X×ak)} (f:mN a u=bq) (c:X):∀id∈(gt a c).ids,(aq u id).isSome=bq:=by
 intro id b;unfold gt at b;cases d:aq a c with
 |none=>grind [ak.ids]
 |some e=>
  rw[d] at b;have g:(c,e)∈a:=by
   clear f b
   induction a with
   |nil=>cases d
   |cons i j h=>
    grind [alx,akS,di]
  grind [alg,mN]
section
mutual
def fo (P:bY):ah->bF->Prop
 |.int f,T=>∃a,P.info? T=Y a/\a.size=1/\a.bytes<=24/\a.zero=Y (.int f 0)/\P.underlying T=Y (.int f)
 |.bool,T=>∃a,P.info? T=Y a/\a.size=1/\a.bytes<=24/\a.zero=Y (.bool bp)/\P.underlying T=Y .bool
 |.str,T=>∃a,P.info? T=Y a/\a.size=1/\a.bytes<=24/\a.zero=Y (.string amM)/\P.underlying T=Y .string
 |.a8 _ b,T=>∃a E,P.info? T=Y a/\a.size=1/\a.bytes<=24/\a.zero=Y (.slice bo 0 0)/\P.underlying T=Y (.slice E)/\fo P b E
 |.osl b,T=>∃a E,P.info? T=Y a/\a.size=1/\a.bytes<=24/\a.zero=Y (.slice bo 0 0)/\P.underlying T=Y (.slice E)/\fo P b E
 |.ptr _ b,T=>∃a E,P.info? T=Y a/\a.size=1/\a.bytes<=24/\a.zero=Y (.pointer bo)/\P.underlying T=Y (.pointer E)/\fo P b E
 |.optr b,T=>∃a E,P.info? T=Y a/\a.size=1/\a.bytes<=24/\a.zero=Y (.pointer bo)/\P.underlying T=Y (.pointer E)/\fo P b E
 |.st b,T=>0<b.size/\∃a e d,P.info? T=Y a/\a.size=b.size/\a.bytes<=24*b.size/\a.zero=Y (.agg d)/\P.underlying T=Y (.struct e)/\iV P b e.toList 0 d.toList/\d.size=b.size
 |.mp b,T=>∃a c E,P.info? T=Y a/\a.size=1/\a.bytes<=24/\a.zero=Y (.map bo)/\P.underlying T=Y (.map c E)/\P.underlying c=Y (.int .i64)/\fo P b E
 |.fB _ b,T=>∃a c E,P.info? T=Y a/\a.size=1/\a.bytes<=24/\a.zero=Y (.map bo)/\P.underlying T=Y (.map c E)/\P.underlying c=Y (.int .i64)/\fo P b E
 |.fn _ _,T=>∃a g h i,P.info? T=Y a/\a.size=1/\a.bytes<=24/\a.zero=Y .nilFunc/\P.underlying T=Y (.func g h i)
 |_,_=>b4
def iV (P:bY):ah->bm akr->X->ey->Prop
 |.pr a g,c::h,e,b=>c.offset=e/\fo P a c.type/\0<a.size/\(∃d f,P.info? c.type=Y d/\d.zero=Y f/\b.take a.size=f.cells.toList)/\iV P g h (e+a.size) (b.drop a.size)
 |.nil,[],_,b=>b=[]
 |_,_,_,_=>b4
end
def pA:ah->bA
 |.st _=>bq
 |_=>bp
structure UC (P:bY) (τ:ah) (T:bF) (i:TypeInfo):Prop where
 info:P.info? T=Y i
 size:i.size=τ.size
 bytes:i.bytes<=24*τ.size
 pos:0<τ.size
def fo.info {P:bY}:∀{τ:ah} {T:bF},fo P τ T->∃a g,UC P τ T a/\P.underlying T=Y g/\(match g with|.struct _|.array _ _=>bq|_=>bp)=pA τ
 |.int _,_,⟨a,b,c,d,_,e⟩=>⟨a,_,⟨b,c,d,by simp[ah.size]⟩,e,bn⟩
 |.bool,_,⟨a,b,c,d,_,e⟩=>⟨a,_,⟨b,c,d,by simp[ah.size]⟩,e,bn⟩
 |.str,_,⟨a,b,c,d,_,e⟩=>⟨a,_,⟨b,c,d,by simp[ah.size]⟩,e,bn⟩
 |.a8 _ _,_,⟨a,_,b,c,d,_,e,_⟩=>⟨a,_,⟨b,c,d,by simp[ah.size]⟩,e,bn⟩
 |.osl _,_,⟨a,_,b,c,d,_,e,_⟩=>⟨a,_,⟨b,c,d,by simp[ah.size]⟩,e,bn⟩
 |.ptr _ _,_,⟨a,_,b,c,d,_,e,_⟩=>⟨a,_,⟨b,c,d,by simp[ah.size]⟩,e,bn⟩
 |.optr _,_,⟨a,_,b,c,d,_,e,_⟩=>⟨a,_,⟨b,c,d,by simp[ah.size]⟩,e,bn⟩
 |.st i,_,⟨h,a,_,_,b,c,d,_,e,_⟩=>⟨a,_,⟨b,c,d,h⟩,e,bn⟩
 |.pr _ _,_,f=>f.elim
 |.nil,_,f=>f.elim
 |.eF,_,f=>f.elim
 |.mp _,_,⟨a,_,_,b,c,d,_,e,_⟩=>⟨a,_,⟨b,c,d,by simp[ah.size]⟩,e,bn⟩
 |.fB _ _,_,⟨a,_,_,b,c,d,_,e,_⟩=>⟨a,_,⟨b,c,d,by simp[ah.size]⟩,e,bn⟩
 |.fn _ _,_,⟨a,_,_,_,b,c,d,_,e⟩=>⟨a,_,⟨b,c,d,by simp[ah.size]⟩,e,bn⟩
theorem fo.I3 {P:bY}:∀{τ:ah} {T:bF},fo P τ T->∃g,g.cells.size=τ.size/\∀d,P.info? T=Y d->d.zero=Y g
 |.int _,_,⟨d,a,_,_,b,_⟩|.bool,_,⟨d,a,_,_,b,_⟩|.str,_,⟨d,a,_,_,b,_⟩=>⟨_,bn,λf c=>by rw[a] at c;cases c;exact b⟩
 |.a8 _ _,_,⟨d,_,a,_,_,b,_⟩|.osl _,_,⟨d,_,a,_,_,b,_⟩|.ptr _ _,_,⟨d,_,a,_,_,b,_⟩|.optr _,_,⟨d,_,a,_,_,b,_⟩=>⟨_,bn,λf c=>by rw[a] at c;cases c;exact b⟩
 |.st n,_,⟨j,d,_,i,a,k,l,b,m,_,h⟩=>⟨.agg i,h,λf c=>by grind⟩
 |.pr _ _,_,e=>e.elim
 |.nil,_,e=>e.elim
 |.eF,_,e=>e.elim
 |.mp _,_,⟨d,_,_,a,_,_,b,_⟩=>⟨_,bn,λf c=>by rw[a] at c;cases c;exact b⟩
 |.fB _ _,_,⟨d,_,_,a,_,_,b,_⟩=>⟨_,bn,λf c=>by rw[a] at c;cases c;exact b⟩
 |.fn _ _,_,⟨d,_,_,_,a,_,_,b,_⟩=>⟨_,bn,λf c=>by rw[a] at c;cases c;exact b⟩
section
variable {P:bY} {τ:ah} {T:bF}
def fo.sizeOf (c:fo P τ T) (b:bC):(akT T).run P b=.ok τ.size b:=by obtain⟨e,d,a,_⟩:=c.info;simp[akT,akA,a.info,a.size]
def fo.isAgg (c:fo P τ T) (a:bC):(Go.isAgg T).run P a=.ok (pA τ) a:=by obtain⟨g,b,f,e,d⟩:=c.info;simp only[Go.isAgg,bW,b7 e,b1];rw[<-d];cases b<;>rfl
def fo.pos (a:fo P τ T):0<τ.size:=by obtain⟨d,c,b,_⟩:=a.info;exact b.pos
def Kq:∀{τ:ah} {T:bF},fo P τ T->pA τ=bp->τ.size=1
 |.int _,_,_,_|.bool,_,_,_|.str,_,_,_|.a8 _ _,_,_,_|.osl _,_,_,_|.ptr _ _,_,_,_|.optr _,_,_,_|.mp _,_,_,_|.fB _ _,_,_,_|.fn _ _,_,_,_=>rfl
 |.st _,_,_,a=>by cases a
 |.pr _ _,_,a,_=>a.elim
 |.nil,_,a,_=>a.elim
 |.eF,_,a,_=>a.elim
def F3 (a:pA τ=bp):c0 τ h=h.headD undef:=by cases τ<;>first|rfl|cases a
def F4 (a:pA τ=bq):c0 τ h=.agg h.toArray:=by cases τ<;>first|rfl|cases a
theorem oT (d:fo P τ T) (c:h.length=τ.size) (e:∀a∈h,a.oneCell'=bq):(c0 τ h).cells=h.toArray:=by
 cases b:pA τ with
 |true=>rw[F4 b];rfl
 |false=>
  rw[F3 b];rw[Kq d b] at c;obtain⟨a,rfl⟩:=p4.1 c;have:=e a ac;cases a<;>first|rfl|grind [akp]
theorem KU {w:bC} {b o:X} {cs:ey} (a:fo P τ T) (e:fy w b o cs) (c:cs.length=τ.size):(loadVar T ⟨b,o,bo⟩).run P w=.ok (c0 τ cs) w:=by
 simp only[loadVar,bW,a.isAgg,b1];cases g:pA τ with
 |true=>
  simp only[cj,bW,a.sizeOf,b1];rw[<-c,run_loadCells_list w ⟨b,o,bo⟩ cs (λh d f=>by rw[ak5];exact e h d f)];simp_all [F4]
 |false=>
  rw[Kq a g] at c;obtain⟨d,rfl⟩:=p4.1 c;have:=e 0 d bn;simp_all [F3,l4]
end
def mw:(τ:ah)->bv τ.den
 |.int _=>Y (0:Z)
 |.bool=>Y bp
 |.str=>Y amM
 |.a8 _ _=>Y []
 |.osl _=>Y []
 |.ptr _ _=>Y bo
 |.optr _=>bo
 |.st c=>mw c
 |.pr a b=>match mw a,mw b with|some d,some e=>Y (d,e)|_,_=>bo
 |.nil=>Y ()
 |.eF=>bo
 |.mp _=>Y bo
 |.fB _ _=>Y bo
 |.fn _ _=>bo
mutual
theorem wH {P:bY}:∀{τ:ah} {T:bF} {g:τ.den},fo P τ T->mw τ=Y g->∃b l,P.info? T=Y b/\b.zero=Y l/\l=c0 τ l.cells.toList/\∀(e:eE->X->Prop) (f:bC),aU e f τ l.cells.toList g []
 |.int p,_,g,⟨b,c,h,i,d,j⟩,a=>⟨b,_,c,d,bn,λe f=>by cases a;exact⟨bn,bn⟩⟩
 |.bool,_,g,⟨b,c,h,i,d,j⟩,a=>⟨b,_,c,d,bn,λe f=>by cases a;exact⟨bn,bn⟩⟩
 |.str,_,g,⟨b,c,h,i,d,j⟩,a=>⟨b,_,c,d,bn,λe f=>by cases a;exact⟨bn,bn⟩⟩
 |.a8 _ _,_,g,⟨b,_,c,h,i,d,j,_⟩,a=>⟨b,_,c,d,bn,λe f=>by cases a;exact⟨bn,bo,0,bn,bd _,λ_=>rfl,.inl bn⟩⟩
 |.osl _,_,g,⟨b,_,c,h,i,d,j,_⟩,a=>⟨b,_,c,d,bn,λe f=>by cases a;exact⟨bo,0,bn,.inl ⟨bn,bn,bn,bn⟩⟩⟩
 |.ptr _ _,_,g,⟨b,_,c,h,i,d,j,_⟩,a=>⟨b,_,c,d,bn,λe f=>by cases a;exact⟨bn,bn⟩⟩
 |.optr _,_,_,_,a=>by cases a
 |.st n,_,g,⟨_,b,o,q,c,h,i,d,j,m,_⟩,a=>⟨b,_,c,d,bn,λe f=>TN (τ:=n) m a e f⟩
 |.pr _ _,_,_,k,_=>k.elim
 |.nil,_,_,k,_=>k.elim
 |.eF,_,_,k,_=>k.elim
 |.mp _,_,g,⟨b,_,_,c,h,i,d,j,_⟩,a=>⟨b,_,c,d,bn,λe f=>by cases a;exact⟨bn,bn⟩⟩
 |.fB _ _,_,g,⟨b,_,_,c,h,i,d,j,_⟩,a=>⟨b,_,c,d,bn,λe f=>by cases a;exact⟨bn,bn⟩⟩
 |.fn _ _,_,_,_,a=>by cases a
theorem TN {P:bY}:∀{τ:ah} {l:bm akr} {g:X} {f:ey} {e:τ.den},iV P τ l g f->mw τ=Y e->∀(b:eE->X->Prop) (d:bC),aU b d τ f e []
 |.pr j k,r::x,g,f,e,a,c,b,d=>by
  obtain⟨s,m,t,⟨u,B,ay,q,w⟩,n⟩:=a;simp only[mw] at c;split at c
  ·rename_i z A o p;cases c;obtain⟨v,C,h,i,_,y⟩:=wH (τ:=j) m o;rw[ay] at h;obtain rfl:=gq h;rw[q] at i;obtain rfl:=gq i;exact⟨[],[],bn,by grind,TN (τ:=k) n p b d⟩
  grind
 |.nil,[],_,f,e,a,c,b,d=>⟨bn,a⟩
 |.pr _ _,[],_,_,_,a,_,_,_=>a.elim
 |.nil,_::_,_,_,_,a,_,_,_=>a.elim
 |.int _,_,_,_,_,a,_,_,_=>by cases a
 |.bool,_,_,_,_,a,_,_,_=>by cases a
 |.str,_,_,_,_,a,_,_,_=>by cases a
 |.a8 _ _,_,_,_,_,a,_,_,_=>by cases a
 |.osl _,_,_,_,_,a,_,_,_=>by cases a
 |.ptr _ _,_,_,_,_,a,_,_,_=>by cases a
 |.optr _,_,_,_,_,a,_,_,_=>by cases a
 |.st _,_,_,_,_,a,_,_,_=>by cases a
 |.eF,_,_,_,_,a,_,_,_=>by cases a
 |.mp _,_,_,_,_,a,_,_,_=>by cases a
 |.fB _ _,_,_,_,_,a,_,_,_=>by cases a
 |.fn _ _,_,_,_,_,a,_,_,_=>by cases a
end
def bb:ah->ah->bA
 |.int g,.int h=>if g=h then bq else bp
 |.bool,.bool|.str,.str|.nil,.nil=>bq
 |.a8 _ a,.a8 _ b|.a8 _ a,.osl b|.osl a,.a8 _ b|.osl a,.osl b=>bb a b
 |.ptr _ a,.ptr _ b|.ptr _ a,.optr b|.optr a,.ptr _ b|.optr a,.optr b=>bb a b
 |.st a,.st b=>bb a b
 |.mp a,.mp b|.mp a,.fB _ b|.fB _ a,.mp b|.fB _ a,.fB _ b=>bb a b
 |.fn _ _,.fn _ _=>bq
 |.pr c d,.pr e f=>bb c e&&bb d f
 |_,_=>bp
theorem bb.size:∀{τ b:ah},bb τ b=bq->τ.size=b.size:=by
 intro τ
 induction τ with
 |st h c=>intro b a;cases b<;>simp only[bb] at a<;>first|(simp only[ah.size];exact c a)|cases a
 |pr d e f g=>
  intro b a;cases b<;>simp only[bb] at a<;>try (cases a;done)
  simp only[bk] at a;grind [ah.size]
 |_=>intro b a;cases b<;>simp[bb] at a<;>simp[ah.size]
mutual
theorem fo.lay {P:bY}:∀{τ c:ah} {T:bF},bb τ c=bq->fo P τ T->fo P c T
 |.int q,c,_,a,b=>by cases c<;>simp[bb] at a;grind
 |.bool,c,_,a,b=>by grind [bb]
 |.str,c,_,a,b=>by grind [bb]
 |.a8 _ k,c,_,a,b=>by obtain⟨h,E,d,i,j,e,f,g⟩:=b;cases c<;>simp only[bb] at a<;>first|exact⟨h,E,d,i,j,e,f,fo.lay a g⟩|cases a
 |.osl k,c,_,a,b=>by obtain⟨h,E,d,i,j,e,f,g⟩:=b;cases c<;>simp only[bb] at a<;>first|exact⟨h,E,d,i,j,e,f,fo.lay a g⟩|cases a
 |.ptr _ k,c,_,a,b=>by obtain⟨h,E,d,i,j,e,f,g⟩:=b;cases c<;>simp only[bb] at a<;>first|exact⟨h,E,d,i,j,e,f,fo.lay a g⟩|cases a
 |.optr k,c,_,a,b=>by obtain⟨h,E,d,i,j,e,f,g⟩:=b;cases c<;>simp only[bb] at a<;>first|exact⟨h,E,d,i,j,e,f,fo.lay a g⟩|cases a
 |.st k,c,_,a,b=>by
  obtain⟨p,h,n,o,d,i,j,e,f,g,l⟩:=b;cases c<;>simp only[bb] at a<;>try (cases a;done)
  have:=bb.size a;exact⟨aa,h,n,o,d,aa,aa,e,f,iV.lay a g,aa⟩
 |.pr _ _,_,_,_,b=>b.elim
 |.nil,_,_,_,b=>b.elim
 |.eF,_,_,_,b=>b.elim
 |.mp k,c,_,a,b=>by obtain⟨h,m,E,d,i,j,e,f,g,l⟩:=b;cases c<;>simp only[bb] at a<;>first|exact⟨h,m,E,d,i,j,e,f,g,fo.lay a l⟩|cases a
 |.fB _ k,c,_,a,b=>by obtain⟨h,m,E,d,i,j,e,f,g,l⟩:=b;cases c<;>simp only[bb] at a<;>first|exact⟨h,m,E,d,i,j,e,f,g,fo.lay a l⟩|cases a
 |.fn _ _,c,_,a,b=>by cases c<;>simp only[bb] at a<;>first|exact b|cases a
theorem iV.lay {P:bY}:∀{τ c:ah} {f:bm akr} {d:X} {e:ey},bb τ c=bq->iV P τ f d e->iV P c f d e
 |.pr k l,c,m::o,d,e,b,a=>by
  obtain⟨g,h,n,i,j⟩:=a;cases c<;>simp only[bb] at b<;>try (cases b;done)
  simp only[bk] at b;have:=bb.size b.1;exact⟨g,fo.lay b.1 h,aa,by rw[<-this];exact i,by rw[<-this];exact iV.lay b.2 j⟩
 |.nil,c,[],_,_,b,a=>by grind [bb]
 |.pr _ _,_,[],_,_,_,a=>a.elim
 |.nil,_,_::_,_,_,_,a=>a.elim
 |.int _,_,_,_,_,_,a=>by cases a
 |.bool,_,_,_,_,_,a=>by cases a
 |.str,_,_,_,_,_,a=>by cases a
 |.a8 _ _,_,_,_,_,_,a=>by cases a
 |.osl _,_,_,_,_,_,a=>by cases a
 |.ptr _ _,_,_,_,_,_,a=>by cases a
 |.optr _,_,_,_,_,_,a=>by cases a
 |.st _,_,_,_,_,_,a=>by cases a
 |.eF,_,_,_,_,_,a=>by cases a
 |.mp _,_,_,_,_,_,a=>by cases a
end
structure uK where
 b:X
 T:bF
 k:cr
 xs:aj6
def L8 (P:bY) (a:uK):Prop:=∃b,P.underlying a.T=Y (.array a.xs.length b)/\fo P (.int a.k) b
def LN (P:bY) (T:bF):Prop:=P.stoodInHeld T=bp/\P.eqGuardType P.depth T=bp/\∃a,P.underlying T=Y (.struct a)/\(a.toList.all λb=>b.name !="_")=bq
structure fF where
 P:bY
 tt:bm (bF×ah)
 ok:∀T τ,aq tt T=Y τ->fo P τ T
 mix:P.follows .mixedOrders=bq
 glob:bm uK:=[]
 gok:∀g∈glob,L8 P g:=by intro g h;cases h
 eqs:ew:=[]
 eqok:∀T∈eqs,LN P T:=by intro T h;cases h
end
section
def hJ:X:=4294967296
def ar {b:Type} (c:bm b) (a:Z):bv b:=if 0<=a then c[a.toNat]? else bo
theorem OE {b:bm y} {a:Z} {c:y} (d:ar b a=Y c):a=(a.toNat:Z)/\a.toNat<b.length/\b[a.toNat]?=Y c:=by grind [akU,ar]
inductive il where
 |e5 (av:ak) (new:bm (X×aG))
 |part (α:Type) (φ:α->Prop) (f:α->ak×bm (X×aG))
 |bad
def il.K (e:il) (Q:ak->bm (X×aG)->Prop):Prop:=
 match e with
 |.e5 c d=>Q c d
 |.part f g b=>∃a:f,g a/\Q (b a).1 (b a).2
 |.bad=>b4
def ah.pure:ah->bA
 |.osl _|.optr _|.eF|.mp _=>bp
 |.st c=>c.pure
 |.pr a b=>a.pure&&b.pure
 |_=>bq
def fw:ah->bm a6->bv ah
 |τ,[]=>Y τ
 |.osl c,.idx _::b=>fw c b
 |.optr c,.deref::b=>fw c b
 |.mp c,.deref::b=>fw c b
 |.st c,.unst::b=>fw c b
 |.pr a _,.fst::b=>fw a b
 |.pr _ d,.snd::b=>fw d b
 |_,_=>bo
def fJ:ah->X->bv (bm a6×ah)
 |.pr a _,0=>Y ([.fst],a)
 |.pr _ c,d+1=>match fJ c d with|some b=>Y (.snd::b.1,b.2)|none=>bo
 |_,_=>bo
def fD:ah->X->X
 |.pr _ _,0=>0
 |.pr a b,c+1=>a.size+fD b c
 |_,_=>0
def rN:(e:ah)->e.den->X->bv aG
 |.pr a _,b,0=>Y ⟨a,b.1⟩
 |.pr _ c,b,d+1=>rN c b.2 d
 |_,_,_=>bo
theorem IJ {h:bY}:∀{τ:ah} {j:bm akr} {f:X} {g:ey} {e:X} {s:bm a6} {τf:ah},iV h τ j f g->fJ τ e=Y (s,τf)->∃c,j[e]?=Y c/\c.offset=f+fD τ e/\fo h τf c.type
 |.pr a i,c::m,f,g,0,s,τf,d,b=>by simp only[fJ,eZ,iy] at b;obtain⟨rfl,rfl⟩:=b;exact⟨c,bn,by rw[d.1];rfl,d.2.1⟩
 |.pr a i,c::m,f,g,e+1,s,τf,d,b=>by
  simp only[fJ] at b;split at b
  ·rename_i k l;simp only[eZ,iy] at b;obtain⟨rfl,rfl⟩:=b;obtain⟨n,o,p,q⟩:=IJ (τ:=i) d.2.2.2.2 (s:=k.1) (τf:=k.2) l;grind [fD]
  grind
 |.pr _ _,[],_,_,_,_,_,d,_=>d.elim
 |.int _,_,_,_,_,_,_,_,b=>by cases b
 |.bool,_,_,_,_,_,_,_,b=>by cases b
 |.str,_,_,_,_,_,_,_,b=>by cases b
 |.a8 _ _,_,_,_,_,_,_,_,b=>by cases b
 |.osl _,_,_,_,_,_,_,_,b=>by cases b
 |.ptr _ _,_,_,_,_,_,_,_,b=>by cases b
 |.optr _,_,_,_,_,_,_,_,b=>by cases b
 |.st _,_,_,_,_,_,_,_,b=>by cases b
 |.nil,_,_,_,_,_,_,_,b=>by cases b
 |.eF,_,_,_,_,_,_,_,b=>by cases b
theorem IM:∀{τ:ah} {e:τ.den} {d:X} {c:aG},rN τ e d=Y c->∃g,fJ τ d=Y (g,c.1)
 |.pr a f,e,0,c,b=>by simp only[rN,eZ] at b;subst b;exact⟨_,bn⟩
 |.pr a f,e,d+1,c,b=>by obtain⟨g,h⟩:=IM (τ:=f) b;grind [fJ]
 |.int _,_,_,_,b=>by cases b
 |.bool,_,_,_,b=>by cases b
 |.str,_,_,_,b=>by cases b
 |.a8 _ _,_,_,_,b=>by cases b
 |.osl _,_,_,_,b=>by cases b
 |.ptr _ _,_,_,_,b=>by cases b
 |.optr _,_,_,_,b=>by cases b
 |.st _,_,_,_,b=>by cases b
 |.nil,_,_,_,b=>by cases b
 |.eF,_,_,_,b=>by cases b
theorem xV:∀{τ:ah} {c:X} {s:bm a6} {tf:ah},fJ τ c=Y (s,tf)->fD τ c+tf.size<=τ.size
 |.pr a d,0,s,tf,b=>by simp only[fJ,eZ,iy] at b;obtain⟨_,rfl⟩:=b;simp[fD,ah.size]
 |.pr a d,c+1,s,tf,b=>by
  simp only[fJ] at b;split at b
  ·rename_i e f;simp only[eZ,iy] at b;obtain⟨_,rfl⟩:=b;have:=xV (τ:=d) (s:=e.1) (tf:=e.2) f;grind [fD,ah.size]
  grind
 |.int _,_,_,_,b=>by cases b
 |.bool,_,_,_,b=>by cases b
 |.str,_,_,_,b=>by cases b
 |.a8 _ _,_,_,_,b=>by cases b
 |.osl _,_,_,_,b=>by cases b
 |.ptr _ _,_,_,_,b=>by cases b
 |.optr _,_,_,_,b=>by cases b
 |.st _,_,_,_,b=>by cases b
 |.nil,_,_,_,b=>by cases b
 |.eF,_,_,_,b=>by cases b
theorem IL {i:eE->X->Prop} {w:bC}:∀{τ:ah} {f:τ.den} {e:X} {c:aG} {d:ey},aU i w τ d f []->rN τ f e=Y c->aU i w c.1 ((d.drop (fD τ e)).take c.1.size) c.2 []/\fD τ e+c.1.size<=τ.size
 |.pr a j,f,0,c,d,h,b=>by simp only[rN,eZ] at b;subst b;obtain⟨g,f2,m,l,k⟩:=h;obtain⟨rfl,rfl⟩:g=[]/\f2=[]:=(by simp_all);grind [fD,ah.size]
 |.pr a j,f,e+1,c,d,h,b=>by obtain⟨g,f2,m,l,k⟩:=h;obtain⟨rfl,rfl⟩:g=[]/\f2=[]:=(by simp_all);obtain⟨n,o⟩:=IL (τ:=j) k b;grind [al5,fD,ah.size]
 |.int _,_,_,_,_,_,b=>by cases b
 |.bool,_,_,_,_,_,b=>by cases b
 |.str,_,_,_,_,_,b=>by cases b
 |.a8 _ _,_,_,_,_,_,b=>by cases b
 |.osl _,_,_,_,_,_,b=>by cases b
 |.ptr _ _,_,_,_,_,_,b=>by cases b
 |.optr _,_,_,_,_,_,b=>by cases b
 |.st _,_,_,_,_,_,b=>by cases b
 |.nil,_,_,_,_,_,b=>by cases b
 |.eF,_,_,_,_,_,b=>by cases b
theorem a5.gz {w:bC} {a b:Loc}:a5 w d a h [] q b N↔d=q/\a=b/\h=N:=by cases d<;>exact al4
theorem a5.append {w:bC}:∀{p c:bm a6} {τ u v:ah} {n q r:Loc} {m k l:ey},a5 w τ n m p u q k->a5 w u q k c v r l->a5 w τ n m (p++c) v r l
 |[],c,τ,_,_,_,_,_,_,_,_,a,b=>by grind [a5.gz]
 |s::p,c,τ,_,_,_,_,_,_,_,_,a,b=>by
  cases τ<;>cases s<;>simp only[a5] at a
  case osl.idx t i=>
   obtain⟨d,o,z,x,e,f,g,h,j,y⟩:=a;exact⟨d,o,z,x,e,f,g,h,j,y.append b⟩
  case optr.deref t=>
   obtain⟨d,o,e,f,g,h,j⟩:=a;exact⟨d,o,e,f,g,h,j.append b⟩
  case st.unst t=>exact a5.append (p:=p) (τ:=t) a b
  case pr.fst t1 t2=>exact a5.append (p:=p) (τ:=t1) a b
  case pr.snd t1 t2=>exact a5.append (p:=p) (τ:=t2) a b
theorem a5.here {w:bC} {a:Loc}:a5 w d a h [] d a h:=by cases d<;>exact⟨bn,bn,bn⟩
def a5.ty {w:bC}:∀{p:bm a6} {τ c:ah} {m n:Loc} {e f:ey},a5 w τ m e p c n f->fw τ p=Y c
 |[],τ,_,_,_,_,_,a=>by obtain⟨rfl,_⟩:=a5.gz.1 a;cases τ<;>rfl
 |s::p,τ,_,_,_,_,_,a=>by
  cases τ<;>cases s<;>simp only[a5] at a
  case osl.idx t i=>obtain⟨d,o,r,q,g,h,j,k,b,l⟩:=a;exact l.ty
  case optr.deref t=>obtain⟨d,o,g,h,j,k,b⟩:=a;exact b.ty
  case st.unst t=>exact a5.ty (p:=p) (τ:=t) a
  case pr.fst t1 t2=>exact a5.ty (p:=p) (τ:=t1) a
  case pr.snd t1 t2=>exact a5.ty (p:=p) (τ:=t2) a
theorem a5.at {w:bC}:∀{q:bm a6} {τ r:ah} {g p:Loc} {e h:ey},a5 w τ g e q r p h->e.length=τ.size->(∀b o,g=Y (b,o)->fy w b o e)->h.length=r.size/\∀b o,p=Y (b,o)->fy w b o h
 |[],τ,_,_,_,_,_,c,n,f=>by grind [a5.gz]
 |s::q,τ,_,g,_,e,_,c,n,f=>by
  cases τ<;>cases s<;>simp only[a5] at c
  case osl.idx t i=>
   obtain⟨b,o,A,z,u,v,k,l,m,x⟩:=c;exact x.at l (λj y d=>by grind)
  case optr.deref t=>
   obtain⟨b,o,u,v,k,l,m⟩:=c;exact m.at k (λj y d=>by grind)
  case st.unst t=>exact a5.at (τ:=t) c n f
  case pr.fst a b=>
   exact a5.at (τ:=a) c (by grind [ah.size]) (λb o d=>(f b o d).take)
  case pr.snd a b=>
   refine a5.at (τ:=b) c (by grind [ah.size]) (λj o d=>?_);cases g with
   |none=>grind
   |some B=>
    simp only[ji,eZ,iy] at d;obtain⟨rfl,rfl⟩:=d;exact(f _ _ rfl).drop
theorem a5.EU {w:bC}:∀{τ:ah} {e:X} {s:bm a6} {τf:ah} {l:Loc} {cs:ey},fJ τ e=Y (s,τf)->a5 w τ l cs s τf (l.map λc=>(c.1,c.2+fD τ e)) ((cs.drop (fD τ e)).take τf.size)
 |.pr a f,0,s,τf,l,cs,d=>by simp only[fJ,eZ,iy] at d;obtain⟨rfl,rfl⟩:=d;simp_all [m5,a5,fD]
 |.pr a f,e+1,s,τf,l,cs,d=>by
  simp only[fJ] at d;split at d
  ·rename_i c g;simp only[eZ,iy] at d;obtain⟨rfl,rfl⟩:=d;have:=a5.EU (w:=w) (τ:=f) (s:=c.1) (τf:=c.2) (l:=l.map λc=>(c.1,c.2+a.size)) (cs:=cs.drop a.size) g;simp only[a5,fD];rw[q9] at this;cases l with
   |none=>grind
   |some h=>grind
  grind
 |.int _,_,_,_,_,_,b=>by cases b
 |.bool,_,_,_,_,_,b=>by cases b
 |.str,_,_,_,_,_,b=>by cases b
 |.a8 _ _,_,_,_,_,_,b=>by cases b
 |.osl _,_,_,_,_,_,b=>by cases b
 |.ptr _ _,_,_,_,_,_,b=>by cases b
 |.optr _,_,_,_,_,_,b=>by cases b
 |.st _,_,_,_,_,_,b=>by cases b
 |.nil,_,_,_,_,_,b=>by cases b
 |.eF,_,_,_,_,_,b=>by cases b
theorem eT.uniq:∀{p:bm a6} {τ:ah} {e:τ.den} {c:ah} {f g:c.den},eT τ e p c f->eT τ e p c g->f=g
 |[],τ,_,_,_,_,a,b=>by grind [eT.gz]
 |s::p,τ,_,_,_,_,a,b=>by
  cases τ<;>cases s<;>simp only[eT] at a b
  case osl.idx=>
   obtain⟨i,h,a⟩:=a;obtain⟨j,d,b⟩:=b;rw[h] at d;obtain rfl:=gq d;exact a.uniq b
  case optr.deref=>exact eT.uniq (p:=p) a b
  case st.unst=>exact eT.uniq (p:=p) a b
  case pr.fst=>exact eT.uniq (p:=p) a b
  case pr.snd=>exact eT.uniq (p:=p) a b
def Yields (E:fF) (C:e4) (st:aQ) (a:Act) (w:bC) (I:X->Prop) (rt:X->ey) (fp:X->aj5) (o:bR) (Q:ak->bm (X×aG)->Prop):Prop:=
 ∃j d e i g f c,(bN a.eval o).run E.P w=.ok (.value j) d/\hz w d/\(∀b,I b->e b)/\(∀b,e b->I b\/(w.heap.size<=b/\b<d.heap.size))/\wW C st w d e c i g/\cP (be e C.B) d (c++st.h) (fk c i rt) (fk c g fp) f j/\Q f c
section
variable {E:fF} {C:e4} {st:aQ} {a:Act} {w:bC} {I:X->Prop} {rt:X->ey} {fp:X->aj5} {o:bR} {Q:ak->bm (X×aG)->Prop}
def Yields.pure {v:Value} (d:(bN a.eval o).run E.P w=.ok (.value v) w) (e:cP (be I C.B) w st.h rt fp V v) (c:Q V []):Yields E C st a w I rt fp o Q:=
 ⟨v,w,I,rt,fp,V,[],d,.refl w,λ_ b=>b,λ_ b=>.inl b,.nil,e,c⟩
def Yields.wp (t:cK C st a.tmps w I rt fp) (k:Yields E C st a w I rt fp o Q) {next:Act->bC->Prop} {j:b5->Act->bC->Prop} {f:X} (u:o.dst=Y f) (v:C.ok f) (x:∀b c e d,Q b c->e.defers=a.defers->gM C ⟨(f,b)::st.g,c++st.h⟩ e.tmps d->next e d):o.wp E.P a w next j:=by
 obtain⟨y,d,i,A,z,b,c,l,m,n,p,q,r,s⟩:=k;unfold ake;rw[l];show next (a.put o.dst y) d
 rw[u];exact x b c _ _ s bn ⟨i,_,_,(t.ext m n p q).put v r⟩
def ma (h:BinOp) (a:cr) (d:Z) (g:cr) (b:Z):il:=
 let c (i:Prop) (f:Z):il:=if a=g then .part Z (λc=>i/\f=c) (λc=>(.val (.int a) c,[])) else .bad
 let e (f:bA):il:=if a=g then .e5 (.val .bool f) [] else .bad
 match h with
 |.add=>c True (a.wrap (d+b))
 |.sub=>c True (a.wrap (d-b))
 |.mul=>c True (a.wrap (d*b))
 |.quo=>c (b≠0) (a.wrap (d.tdiv b))
 |.rem=>c (b≠0) (d.tmod b)
 |.and=>c True (a.wrap (cf a.bits d&&&cf a.bits b).toNat)
 |.or=>c True (a.wrap (cf a.bits d|||cf a.bits b).toNat)
 |.xor=>c True (a.wrap (cf a.bits d^^^cf a.bits b).toNat)
 |.andNot=>c True (a.wrap (cf a.bits d&&&~~~cf a.bits b).toNat)
 |.shl=>.part Z (λc=>0<=b/\a.wrap (d*2^min b.toNat a.bits)=c) (λc=>(.val (.int a) c,[]))
 |.shr=>.part Z (λc=>0<=b/\d.fdiv (2^min b.toNat a.bits)=c) (λc=>(.val (.int a) c,[]))
 |.eql=>e (d==b)
 |.neq=>e (d !=b)
 |.lss=>e (br (d<b))
 |.leq=>e (br (d<=b))
 |.gtr=>e (br (d>b))
 |.geq=>e (br (d>=b))
def Hx (c:BinOp) (a b:ak):il:=
 match a,b with
 |.val (.int d) a,.val (.int e) b=>ma c d a e b
 |.val .bool a,.val .bool b=>match c with
  |.eql=>.e5 (.val .bool (a==b)) []
  |.neq=>.e5 (.val .bool (!(a==b))) []
  |_=>.bad
 |_,_=>.bad
theorem Vv {e:BinOp} {d h:cr} {n f:Z} (k:o.op=.binOp e x c g T) (l:a.eval c=.int d n) (m:a.eval g=.int h f) (b:(ma e d n h f).K Q):Yields E C st a w I rt fp o Q:=by
 have j:∀w,(ak6 e x c g (.int d n) (.int h f)).run E.P w=.ok () w:=λw=>(by simp_all [ak6]);have r:e=.shl->Yields E C st a w I rt fp o Q:=(by rintro rfl;simp only[ma] at b;obtain⟨i,⟨p,rfl⟩,b⟩:=b;exact .pure (v:=.int d _) (by simp[bN,k,l,m,j,akf,Op.shift,(aa:¬f<0)]) (.int d _) b);have s:e=.shr->Yields E C st a w I rt fp o Q:=(by rintro rfl;simp only[ma] at b;obtain⟨i,⟨p,rfl⟩,b⟩:=b;exact .pure (v:=.int d _) (by simp[bN,k,l,m,j,akf,Op.shift,(aa:¬f<0)]) (.int d _) b);by_cases q:d=h
 case neg=>
  cases e<;>simp only[ma,q,if_false] at b
  case shl=>grind
  case shr=>grind
  all_goals exact b.elim
 subst q;cases e<;>simp only[ma,cj] at b
 case shl=>grind
 case shr=>grind
 case quo|rem=>
  obtain⟨i,⟨p,rfl⟩,b⟩:=b;exact .pure (v:=.int d _) (by simp_all [bN,akf,Op.intDiv]) (.int d _) b
 case add|sub|mul=>
  obtain⟨i,⟨_,rfl⟩,b⟩:=b;exact .pure (v:=.int d _) (by simp_all [bN,akf,Op.intArith]) (.int d _) b
 case and|or|xor|andNot=>
  obtain⟨i,⟨_,rfl⟩,b⟩:=b;exact .pure (v:=.int d _) (by simp_all [bW,bN,akf,Op.intBits]) (.int d _) b
 all_goals exact .pure (v:=.bool _) (by simp[bN,k,l,m,j,akf,Op.intCmp]) (.bool _) b
def run_equalIn_bool {a:bY} (w:bC) (d:X) (b c:bA) (e:a.underlying x=Y .bool):(alh (d+1) x (.bool b) (.bool c)).run a w=.ok (b==c) w:=by simp[alh,b7 e]
theorem run_eql_bool {a:bY} (w:bC) (b c:bA) (d:a.underlying x=Y .bool):(akf .eql x (.bool b) (.bool c)).run a w=.ok (.bool (b==c)) w:=by simp_all [run_equalIn_bool,al6,al7,akf]
theorem run_neq_bool {a:bY} (w:bC) (b c:bA) (d:a.underlying x=Y .bool):(akf .neq x (.bool b) (.bool c)).run a w=.ok (.bool (!(b==c))) w:=by simp_all [run_equalIn_bool,al6,al7,akf]
theorem MO (s:cK C st a.tmps w I rt fp) {m:BinOp} {d:bM} (z:o.op=.binOp m x c d T) (y:∀i j:bA,(m=.eql\/m=.neq)->(aV st.g c=.val .bool i/\aV st.g d=.val .bool j)->E.P.underlying x=Y .bool) (e:(Hx m (aV st.g c) (aV st.g d)).K Q):Yields E C st a w I rt fp o Q:=by
 have f:=s.aV c;have h:=s.aV d;unfold Hx at e;split at e
 ·rename_i G J H L n p;rw[n] at f;rw[p] at h;obtain⟨b,l⟩:∃b,b=a.eval c:=⟨_,bn⟩;obtain⟨A,k⟩:∃b,b=a.eval d:=⟨_,bn⟩;rw[<-l] at f;rw[<-k] at h;cases f with|val q=>cases h with|val r=>
  obtain⟨_,rfl⟩:=q;obtain⟨_,rfl⟩:=r;exact Vv z l.symm k.symm e
 ·rename_i i j n p;have k:=y i j;have u:aV st.g c=.val .bool i/\aV st.g d=.val .bool j:=⟨n,p⟩;rw[n] at f;rw[p] at h;obtain⟨b,l⟩:∃b,b=a.eval c:=⟨_,bn⟩;obtain⟨A,t⟩:∃b,b=a.eval d:=⟨_,bn⟩;rw[<-l] at f;rw[<-t] at h;cases f with|val q=>cases h with|val r=>
  obtain⟨_,rfl⟩:=q;obtain⟨_,rfl⟩:=r;have F:a.eval c=.bool i:=l.symm;have D:a.eval d=.bool j:=t.symm;have B:∀w,(ak6 m x c d (.bool i) (.bool j)).run E.P w=.ok () w:=λw=>(by simp_all [ak6]);split at e
  ·have:=k (.inl bn) u;exact .pure (v:=.bool _) (by simp_all [bW,b1,run_eql_bool,bN]) (.bool _) e
  ·have:=k (.inr bn) u;exact .pure (v:=.bool _) (by simp_all [bW,b1,run_neq_bool,bN]) (.bool _) e
  exact e.elim
 exact e.elim
end
end
section
section
variable {E:fF} {C:e4} {st:aQ} {a:Act} {w:bC} {I:X->Prop} {rt:X->ey} {fp:X->aj5} {o:bR} {Q:ak->bm (X×aG)->Prop}
theorem cK.notM (c:cK C st O w I rt fp) {id:X} (e:aq st.h id=Y P):∀a∈fp id,∀b,¬be I C.B b a:=λa d b f=>by have:=(c.tree id P e).2.2 a d;grind [nm]
theorem cK.k9 (e:cK C st O w I rt fp) {id:X} (f:aq st.h id=Y P) {p:bm a6} {τ:ah} {g:τ.den} (k:eT P.1 P.2 p τ g) {c:Loc} (l:a5 w P.1 bo (rt id) p d c N):∃_e:d=τ,∃a,aU (be I C.B) w τ N g a/\p8 w c N τ.size/\∀i∈a,i∈fp id:=by obtain⟨n,m,_⟩:=e.tree id P f;obtain⟨t,o,a,u,j,q,r,s,_⟩:=EV p (loc:=bo) n (λ_ _ b=>by cases b) m (λ_ _ b=>by cases b) (e.notM f) k;obtain⟨rfl,rfl,rfl⟩:=l.kN j;grind
def cK.Sc (e:cK C st O w I rt fp) {id:X} (g:aq st.h id=Y P) {b:Loc} (f:a5 w P.1 bo (rt id) n d b N):N.length=d.size/\∀a o,b=Y (a,o)->fy w a o N:=f.at (e.tree id P g).1.len (λ_ _ c=>by cases c)
theorem pE {u:eE->X->Prop}:∀{p:bm a6} {τ:ah} {E:Loc} {j:ey} {m:τ.den} {g:aj5} {c:ah} {F:Loc} {n:ey},aU u w τ j m g->a5 w τ E j p (.optr c) F n->∃d o e,n=[.pointer (Y ⟨d,o,bo⟩)]/\e.length=c.size/\fy w d o e
 |[],τ,_,_,_,_,_,_,_,a,b=>by obtain⟨rfl,rfl,rfl⟩:=a5.gz.1 b;obtain⟨d,o,g,e,q,_,t,h,_⟩:=a;grind
 |s::p,τ,_,j,m,g,_,_,_,a,b=>by
  cases τ<;>cases s<;>simp only[a5] at b
  case osl.idx c i=>
   obtain⟨d,o,N,J,e,rfl,r,t,h,l⟩:=b;obtain⟨I,K,f,a⟩:=a;simp only[h4,aka,ca] at f;obtain⟨rfl,rfl,rfl⟩:=f;rcases a with⟨k,_⟩|⟨v,G,B,k,_,ay,O,P,H⟩
   ·cases k
   cases k;obtain⟨z,L,x,y⟩:=H i m[i] (B[i]'(by omega)) ac ac
   obtain rfl:=h.eq x aa;exact pE (p:=p) y l
  case optr.deref c=>
   obtain⟨d,o,e,rfl,t,h,l⟩:=b;obtain⟨v,G,g,z,f,_,M,C,_,D⟩:=a;simp only[h4,ale,eZ,akq,ca] at f;obtain⟨rfl,rfl⟩:=f;obtain rfl:=h.eq C aa;exact pE (p:=p) D l
  case st.unst c=>exact pE (p:=p) (τ:=c) a b
  case pr.fst t1 t2=>obtain⟨A,f2,_,q,_⟩:=a;exact pE (p:=p) (τ:=t1) q b
  case pr.snd t1 t2=>obtain⟨A,f2,_,_,r⟩:=a;exact pE (p:=p) (τ:=t2) r b
def gZ (tt:bm (bF×ah)) (a:bF):bv ah:=match aq tt a with|some (.a8 _ b)=>Y b|_=>bo
def lL (tt:bm (bF×ah)) (a:bF):bv ah:=match aq tt a with|some (.st b)=>Y b|_=>bo
theorem gZ.ok {a:bF} {e:ah} (c:gZ E.tt a=Y e):∃d b,E.P.info? a=Y d/\E.P.underlying a=Y (.slice b)/\fo E.P e b:=by
 unfold gZ at c;split at c
 ·rename_i j k f;cases c;obtain⟨d,b,g,_,_,_,h,i⟩:=E.ok a _ f;grind
 grind
theorem lL.ok {a:bF} {d:ah} (c:lL E.tt a=Y d):∃b e,E.P.underlying a=Y (.struct b)/\iV E.P d b.toList 0 e:=by
 unfold lL at c;split at c
 ·rename_i k f;cases c;obtain⟨_,j,b,e,g,_,_,_,h,i,_⟩:=E.ok a _ f;grind
 grind
def vJ (tt:bm (bF×ah)) (e:bm (X×aG)) (g:bF) (b:ak):il:=
 match gZ tt g with
 |none=>.bad
 |some _=>match b with
  |.val (.a8 _ _) a=>.e5 (.val (.int .i64) (a.length:Z)) []
  |.dh (.slice bo 0 0)=>.e5 (.val (.int .i64) (0:Z)) []
  |.ref id d=>match aq e id with
   |some ⟨c,b⟩=>match fw c d with
    |some (.osl f)=>.part (bm f.den) (λa=>eT c b d (.osl f) a) (λa=>(.val (.int .i64) (a.length:Z),[]))
    |_=>.bad
   |none=>.bad
  |.view _ _ i h=>.e5 (.val (.int .i64) ((h-i:X):Z)) []
  |.app id d c j _=>match aq e id with
   |some ⟨k,b⟩=>.part (bm c.den) (λa=>eT k b d (.osl c) a) (λa=>(.val (.int .i64) ((a.length+j.length:X):Z),[]))
   |none=>.bad
  |_=>.bad
def x8 (f:gZ E.tt x=Y d) (g:o.op=.call {callee:=.builtin .len,args:=#[c],argTypes:=#[x]}) (h:a.eval c=.slice s b i):(bN a.eval o).run E.P w=.ok (.value (.int .i64 b)) w:=by obtain⟨k,j,_,e,_⟩:=gZ.ok f;simp[bN,g,akM,invoke,ak7,h,ant,b7 e,goInt]
theorem Y2 (s:cK C st a.tmps w I rt fp) (j:o.op=.call {callee:=.builtin .len,args:=#[c],argTypes:=#[x]}) (b:(vJ E.tt st.h x (aV st.g c)).K Q):Yields E C st a w I rt fp o Q:=by
 have d:=s.aV c;unfold vJ at b;split at b
 ·exact b.elim
 rename_i T i;generalize f:a.eval c=U at d;split at b
 ·rename_i R D u e;rw[e] at d;cases d with|val B=>
  obtain⟨_,p,q,rfl,_⟩:=B;exact .pure (x8 i j f) (.int _ _) b
 ·rename_i e;rw[e] at d;cases d;exact .pure (x8 i j f) (.int _ _) b
 ·rename_i id t e;rw[e] at d;split at b
  ·rename_i G F l;split at b
   ·rename_i D O;obtain⟨u,m,b⟩:=b;cases d with|ref k n=>
    rw[l] at k;cases k;obtain⟨rfl,H,A,_⟩:=s.k9 l m n;obtain⟨p,q,rfl,_⟩:=A;exact .pure (x8 i j f) (.int _ _) b
   exact b.elim
  exact b.elim
 ·rename_i id t P M e;rw[e] at d;cases d with
  |mv=>exact .pure (x8 i j f) (.int _ _) b
  |view k n=>exact .pure (x8 i j f) (.int _ _) b
 ·rename_i id t G V S e;rw[e] at d;split at b
  ·rename_i ad F l;obtain⟨u,m,b⟩:=b;cases d with|app k N n y J L v=>
   rw[l] at k;cases k;obtain⟨p,q,r,_⟩:=v;simp only[h4,ca] at r;have z:=eT.uniq m y;subst z;rw[r] at f;have:=x8 (w:=w) i j f;rw[h5] at this;exact .pure this (.int _ _) b
  exact b.elim
 exact b.elim
def a5.OX {j:Loc} {o a c:X} (e:i<a) (f:h.length=d.size) (g:fy w b (o+i*d.size) h):a5 w (.osl d) j [.slice (Y ⟨b,o,bo⟩) a c] [.idx i] d (Y (b,o+i*d.size)) h:=⟨b,o,a,c,h,bn,e,f,g,a5.here⟩
def a5.Ik {e:Loc} {o:X} (a:h.length=d.size) (c:fy w b o h):a5 w (.optr d) e [.pointer (Y ⟨b,o,bo⟩)] [.deref] d (Y (b,o)) h:=⟨b,o,h,bn,a,c,a5.here⟩
def vF (
 tt:bm (bF×ah)) (i:bm (X×aG)) (k:bF) (e d:ak):il:=
 match gZ tt k with
 |none=>.bad
 |some g=>match d with
  |.val (.int _) d=>match e with
   |.val (.a8 m b) n=>bif bb g b then .part b.den (λh=>ar n d=Y h) (λh=>(.val (.ptr m b) (Y h),[])) else .bad
   |.ref id c=>match aq i id with
    |some ⟨f,e⟩=>match fw f c with
     |some (.osl b)=>bif bb g b then .part (bm b.den×X) (λa=>eT f e c (.osl b) a.1/\d=(a.2:Z)/\a.2<a.1.length) (λa=>(.addr id (c++[.idx a.2]),[])) else .bad
     |_=>.bad
    |none=>.bad
   |.view id c j l=>match aq i id with
    |some ⟨f,e⟩=>match fw f c with
     |some (.osl b)=>bif bb g b then .part (bm b.den×X) (λa=>eT f e c (.osl b) a.1/\d=(a.2:Z)/\a.2<l-j) (λa=>(.addr id (c++[.idx (j+a.2)]),[])) else .bad
     |_=>.bad
    |none=>.bad
   |_=>.bad
  |_=>.bad
def I6 (l:gZ E.tt x=Y q) (n:bb q d=bq) (p:o.op=.indexAddr x g c) {e f h:X} (s:a.eval g=.slice (Y ⟨e,f,bo⟩) i h) (m:a.eval c=.int v b) (u:b<i):(bN a.eval o).run E.P w=.ok (.value (.pointer (Y ⟨e,f+b*d.size,bo⟩))) w:=by obtain⟨y,t,_,j,k⟩:=gZ.ok l;have r:=(k.lay n).sizeOf w;have:(0:Z)<=(b:Z)/\(b:Z)<(i:Z):=⟨aa,aa⟩;simp[bN,p,s,m,Instr.indexAt,ali,b7 j,this,r,ak5];omega
theorem Yh (B:cK C st a.tmps w I rt fp) {z:bM} (M:o.op=.indexAddr T z c) (b:(vF E.tt st.h T (aV st.g z) (aV st.g c)).K Q):Yields E C st a w I rt fp o Q:=by
 have k:=B.aV z;have L:=B.aV c;unfold vF at b;split at b
 ·exact b.elim
 rename_i U J;generalize N:a.eval z=d6 at k;generalize O:a.eval c=d7 at L;split at b
 case h_2=>exact b.elim
 rename_i ap P bs;rw[bs] at L;cases L with|val S=>
 obtain⟨_,rfl⟩:=S;split at b
 ·rename_i c2 f y q;cases d:bb U f with
  |false=>rw[d] at b;exact b.elim
  |true=>
   rw[d] at b;obtain⟨V,c1,b⟩:=b;rw[q] at k;cases k with|val S=>
   obtain⟨_,ad,am,rfl,ay,av,R⟩:=S;obtain⟨ao,a4,bl⟩:=OE c1;rcases R with rfl|⟨A,u,rfl,ce,v⟩
   ·grind
   obtain⟨F,n,p,D⟩:=v _ _ bl;have cv:a.eval c=.int ap (P.toNat:X):=(by rw[O];show akg ap P=_;grind);exact .pure (I6 J d M N cv a4) (.val (τ:=.ptr c2 f) (x:=Y V) (cs:=[.pointer (Y ⟨A,u+P.toNat*f.size,bo⟩)]) ⟨bn,A,_,F,bn,ce,n,p,D⟩) b
 ·rename_i id dg q;split at b
  case h_2=>exact b.elim
  rename_i a0 V j;split at b
  case h_2=>exact b.elim
  rename_i f co;cases d:bb U f with
  |false=>rw[d] at b;exact b.elim
  |true=>
   rw[d] at b;obtain⟨⟨y,e⟩,⟨r,rfl,l⟩,b⟩:=b;simp only at r l b;rw[q] at k;cases k with|ref t s=>
   rw[j] at t;cases t;obtain⟨rfl,bx,i,_⟩:=B.k9 j r s;obtain⟨ad,am,rfl,i⟩:=i;rcases i with⟨_,rfl,_⟩|⟨A,u,G,rfl,_,ay,av,R,v⟩
   ·grind
   obtain⟨F,n,p,D⟩:=v e y[e] (G[e]'(by omega)) ac ac
   exact .pure (I6 J d M N O l) (.addr j (s.append (a5.OX l n p))) b
 ·rename_i id dg m d0 q;split at b
  case h_2=>exact b.elim
  rename_i a0 V j;split at b
  case h_2=>exact b.elim
  rename_i f co;cases d:bb U f with
  |false=>rw[d] at b;exact b.elim
  |true=>
   rw[d] at b;obtain⟨⟨y,e⟩,⟨r,rfl,l⟩,b⟩:=b;simp only at r l b;rw[q] at k;cases k with|mv=>omega|view t s d1 d2 d3=>
   rename_i A u d4 am;rw[j] at t;cases t;obtain⟨a3,bx,i,_⟩:=B.k9 j r s;cases a3;obtain⟨ad,ds,an,i⟩:=i;simp only[h4,aka,ca] at an;obtain⟨rfl,rfl,rfl⟩:=an;rcases i with⟨H,_⟩|⟨dl,d5,G,H,_,ay,av,R,v⟩
   ·cases H
   cases H;have ci:m+e<y.length:=aa;obtain⟨F,n,p,D⟩:=v (m+e) y[m+e] (G[m+e]'(by omega)) ac ac
   have:=I6 (w:=w) J d M N O l;rw[au aa,show u+m*f.size+e*f.size=u+(m+e)*f.size by grind] at this;exact .pure this (.addr j (s.append (a5.OX ci n p))) b
 exact b.elim
def aU.pure {h:eE->X->Prop} {w:bC}:∀{τ:ah} {i:ey} {e:τ.den} {g:aj5},τ.pure=bq->aU h w τ i e g->g=[]
 |.int _,_,_,_,_,b=>b.1
 |.bool,_,_,_,_,b=>b.1
 |.str,_,_,_,_,b=>b.1
 |.a8 _ _,_,_,_,_,b=>b.1
 |.ptr _ _,_,_,_,_,b=>b.1
 |.nil,_,_,_,_,b=>b.1
 |.st k,_,_,_,c,b=>aU.pure (τ:=k) c b
 |.pr a f,_,_,_,c,b=>by simp only[ah.pure,bk] at c;obtain⟨n,f2,rfl,j,d⟩:=b;rw[aU.pure (τ:=a) c.1 j,aU.pure (τ:=f) c.2 d];rfl
 |.osl _,_,_,_,c,_=>by cases c
 |.optr _,_,_,_,c,_=>by cases c
 |.fB _ _,_,e,_,_,b=>by
  cases e with
  |none=>exact b.1
  |some o=>obtain⟨f,m,l,_,d,_⟩:=b;exact d
 |.fn _ _,_,_,_,_,b=>b.1
 |.eF,_,_,_,c,_=>by cases c
def wg (d:ah) (e:d.den) (id:X) (c:bm a6) (a:ah):il:=
 bif a.pure then .part a.den (λb=>eT d e c a b) (λb=>(.val a b,[])) else .e5 (.ref id c) []
def o0:ah->bA
 |.st _|.pr _ _|.nil|.eF=>bp
 |_=>bq
def pt:ah->bA
 |.nil=>bq
 |.pr a b=>o0 a&&pt b
 |_=>bp
def AR:(d:ah)->d.den->bm ak
 |.pr a c,b=>.val a b.1::AR c b.2
 |_,_=>[]
def pt.one {τ:ah} (a:o0 τ=bq):τ.size=1/\∀cs,c0 τ cs=cs.headD undef:=by cases τ<;>first|(cases a;done)|exact⟨bn,λ_=>rfl⟩
def Ov {g:eE->X->Prop} {w:bC} {h:bm (X×aG)} {rt:X->ey} {fp:X->aj5}:∀{t:ah} {c:ey} {e:t.den},pt t=bq->aU g w t c e []->(AR t e).length=c.length/\∀(b:X) (a:ak) (f:Value),(AR t e)[b]?=Y a->c[b]?=Y f->cP g w h rt fp a f
 |.nil,c,e,_,j=>by obtain rfl:=j.2;exact⟨bn,λb a f d _=>by cases d⟩
 |.pr a o,c,e,i,j=>by
  simp only[pt,bk] at i;obtain⟨v,f2,r,d,k⟩:=j;obtain⟨rfl,rfl⟩:=anu.1 r.symm;obtain⟨ao,q⟩:=pt.one i.1;have m:=d.len;rw[ao] at d k m;cases c with
  |nil=>cases m
  |cons f c=>
   obtain⟨ay,s⟩:=Ov (t:=o) i.2 k;refine⟨b6 (· +1) ay,λb p u l n=>?_⟩;cases b with
   |zero=>
    cases l;cases n;have:=cP.val (M:=g) (w:=w) (h:=h) (rt:=rt) (fp:=fp) d;rw[q] at this;exact this
   |succ b=>exact s b p u l n
def v8:(t:ah)->t.den->ak
 |.fn b t,a=>bif pt t then .eA b (AR t a) else .val (.fn b t) a
 |t,a=>.val t a
def ac9 {w:bC} {rt:X->ey} {fp:X->aj5} {b:d.den} (i:aU e w d N b []):cP e w u rt fp (v8 d b) (c0 d N):=by
 cases d<;>first|exact .val i|skip
 rename_i c d;cases g:pt d with
 |false=>
  have:v8 (.fn c d) b=.val (.fn c d) b:=(by simp only[v8,g,bP]);rw[this];exact .val i
 |true=>
  have:v8 (.fn c d) b=.eA c (AR d b):=(by simp only[v8,g,bG]);rw[this];obtain⟨_,n,rfl,f⟩:=i;obtain⟨ay,l⟩:=Ov (h:=u) (rt:=rt) (fp:=fp) g f;exact .eA (by simpa using ay) (λk a m j f=>l k a m j (by simpa using f))
def vL (tt:bm (bF×ah)) (f:bm (X×aG)) (g:bF) (c:ak):il:=
 match aq tt g with
 |none=>.bad
 |some e=>match c with
  |.val (.ptr _ a) (Y i)=>bif bb e a then .e5 (v8 a i) [] else .bad
  |.hG h=>bif o0 e then .e5 h [] else .bad
  |.addr id b=>match aq f id with
   |some ⟨d,c⟩=>match fw d b with
    |some a=>bif bb e a then wg d c id b a else .bad
    |none=>.bad
   |none=>.bad
  |.ref id b=>match aq f id with
   |some ⟨d,c⟩=>match fw d b with
    |some (.optr a)=>bif bb e a then wg d c id (b++[.deref]) a else .bad
    |_=>.bad
   |none=>.bad
  |_=>.bad
theorem Jz (e:aq E.tt x=Y q) (j:bb q d=bq) (k:o.op=.load x c) (l:a.eval c=.pointer (Y ⟨b,i,bo⟩)) (f:fy w b i h) (g:h.length=d.size):(bN a.eval o).run E.P w=.ok (.value (c0 d h)) w:=by have:=KU ((E.ok x q e).lay j) f g;simp_all [bN,aoz,alA]
theorem KM (k:cK C st a.tmps w I rt fp) {id:X} {j:q.den} (i:aq st.h id=Y ⟨q,j⟩) {m:Loc} (e:a5 w q bo (rt id) n d m N) (f:(bN a.eval o).run E.P w=.ok (.value (c0 d N)) w) (b:(wg q j id n d).K Q):Yields E C st a w I rt fp o Q:=by
 unfold wg at b;cases c:d.pure with
 |true=>
  rw[c] at b;obtain⟨r,l,b⟩:=b;obtain⟨_,p,g,_⟩:=k.k9 i l e;have:=g.pure c;subst this;exact .pure f (.val g) b
 |false=>
  rw[c] at b;exact .pure f (.ref i e) b
theorem Za (p:cK C st a.tmps w I rt fp) (z:o.op=.load x c) (d:(vL E.tt st.h x (aV st.g c)).K Q):Yields E C st a w I rt fp o Q:=by
 have f:=p.aV c;unfold vL at d;split at d
 ·exact d.elim
 rename_i n r;generalize A:a.eval c=u at f;split at d
 ·rename_i a0 m G i;cases e:bb n m with
  |false=>rw[e] at d;exact d.elim
  |true=>
   rw[e] at d;rw[i] at f;cases f with|val U=>
   obtain⟨_,q,O,H,rfl,ay,F,S,T⟩:=U;exact .pure (Jz r e z A S F) (ac9 T) d
 ·rename_i am i;cases s:o0 n with
  |false=>rw[s] at d;exact d.elim
  |true=>
   rw[s] at d;rw[i] at f;cases f with|hG ap L an M=>
   obtain⟨ao,J⟩:=pt.one s;rename_i u q;have:=KU (E.ok x n r) (cs:=[u]) (w:=w) (b:=q) (o:=0) (λD a3 B=>by
    cases D with
    |zero=>cases B;exact L
    |succ D=>cases B) (by rw[ao];rfl)
   have N:(bN a.eval o).run E.P w=.ok (.value u) w:=(by rw[J] at this;simp_all [bN,aoz,alA]);exact .pure N M d
 ·rename_i id R i;split at d
  case h_2=>exact d.elim
  rename_i V G k;split at d
  case h_2=>exact d.elim
  rename_i m t;cases e:bb n m with
  |false=>rw[e] at d;exact d.elim
  |true=>
   rw[e] at d;rw[i] at f;cases f with|addr l j=>
   rw[k] at l;cases l;have:=j.ty;rw[t] at this;cases this;obtain⟨ay,F⟩:=p.Sc k j;grind [KM,Jz]
 ·rename_i id R i;split at d
  case h_2=>exact d.elim
  rename_i V G k;split at d
  case h_2=>exact d.elim
  rename_i m t;cases e:bb n m with
  |false=>rw[e] at d;exact d.elim
  |true=>
   rw[e] at d;rw[i] at f;cases f with|ref l j=>
   rename_i a4 av ad;rw[k] at l;cases l;have:=j.ty;rw[t] at this;cases this;obtain⟨q,O,H,rfl,v,y⟩:=pE (p.tree id _ k).1 j;exact KM p k (j.append (a5.Ik v y)) (Jz r e z A y v) d
 exact d.elim
def vA (tt:bm (bF×ah)) (g:bm (X×aG)) (h:bF) (k:ak) (c:X):il:=
 match lL tt h with
 |none=>.bad
 |some e=>match k with
  |.val (.ptr i (.st a)) (Y l)=>bif bb e a then match rN a l c with
   |some ⟨j,m⟩=>.e5 (.val (.ptr i j) (Y m)) []
   |none=>.bad
   else .bad
  |.ref id b=>match aq g id with
   |some ⟨f,_⟩=>match fw f b with
    |some (.optr (.st a))=>bif bb e a then match fJ a c with
     |some (d,_)=>.e5 (.addr id (b++(.deref::.unst::d))) []
     |none=>.bad
     else .bad
    |_=>.bad
   |none=>.bad
  |.addr id b=>match aq g id with
   |some ⟨f,_⟩=>match fw f b with
    |some (.st a)=>bif bb e a then match fJ a c with
     |some (d,_)=>.e5 (.addr id (b++(.unst::d))) []
     |none=>.bad
     else .bad
    |_=>.bad
   |none=>.bad
  |_=>.bad
theorem II {g:ah} (m:lL E.tt x=Y g) (r:bb g d=bq) (u:fJ d b=Y (n,q)) (s:o.op=.fieldAddr x c b) {f:X} (v:a.eval c=.pointer (Y ⟨i,f,bo⟩)):(bN a.eval o).run E.P w=.ok (.value (.pointer (Y ⟨i,f+fD d b,bo⟩))) w:=by obtain⟨j,A,k,l⟩:=lL.ok m;obtain⟨h,z,t,e⟩:=IJ (iV.lay r l) u;have y:q.size≠0:=(by have:=e.pos;omega);have p:j[b]?=Y h:=(by grind);simp[bN,s,v,Instr.fieldAt,b7 k,p,alA,fieldPlace,e.sizeOf,y,ak5,t]
theorem Xy (G:cK C st a.tmps w I rt fp) (y:o.op=.fieldAddr T c b) (d:(vA E.tt st.h T (aV st.g c) b).K Q):Yields E C st a w I rt fp o Q:=by
 have m:=G.aV c;unfold vA at d;split at d
 ·exact d.elim
 rename_i D v;generalize A:a.eval c=a0 at m;split at d
 ·rename_i U e M r;cases i:bb D e with
  |false=>rw[i] at d;exact d.elim
  |true=>
   rw[i] at d;simp only[bG] at d;split at d
   case h_2=>exact d.elim
   rename_i n ap H;rw[r] at m;cases m with|val am=>
   obtain⟨_,f,j,u,rfl,ay,av,ad,J⟩:=am;obtain⟨t,k⟩:=IM H;obtain⟨L,an⟩:=IL (τ:=e) J H;have R:=J.len;simp only[ah.size] at R L an;exact .pure (II v i k y A) (.val (τ:=.ptr U n) (x:=Y ap) (cs:=[.pointer (Y ⟨f,j+fD e b,bo⟩)]) ⟨bn,f,_,_,bn,ay,by grind,ad.drop.take,L⟩) d
 ·rename_i id V r;split at d
  case h_2=>exact d.elim
  rename_i N M q;split at d
  case h_2=>exact d.elim
  rename_i e z;cases i:bb D e with
  |false=>rw[i] at d;exact d.elim
  |true=>
   rw[i] at d;simp only[bG] at d;split at d
   case h_2=>exact d.elim
   rename_i t n k;rw[r] at m;cases m with|ref s p=>
   rw[q] at s;cases s;have:=p.ty;rw[z] at this;cases this;obtain⟨f,j,u,rfl,O,P⟩:=pE (G.tree id _ q).1 p;rename_i S;have B:a5 w (.optr (.st e)) S [.pointer (Y ⟨f,j,bo⟩)] (.deref::.unst::t) n (Y (f,j+fD e b)) ((u.drop (fD e b)).take n.size):=⟨f,j,u,bn,O,P,a5.EU (l:=Y (f,j)) k⟩;exact .pure (II v i k y A) (.addr q (p.append B)) d
 ·rename_i id V r;split at d
  case h_2=>exact d.elim
  rename_i N M q;split at d
  case h_2=>exact d.elim
  rename_i e z;cases i:bb D e with
  |false=>rw[i] at d;exact d.elim
  |true=>
   rw[i] at d;simp only[bG] at d;split at d
   case h_2=>exact d.elim
   rename_i t n k;rw[r] at m;cases m with|addr s p=>
   rw[q] at s;cases s;have:=p.ty;rw[z] at this;cases this;rename_i f j F;have B:a5 w (.st e) (Y (f,j)) F (.unst::t) n (Y (f,j+fD e b)) ((F.drop (fD e b)).take n.size):=a5.EU (l:=Y (f,j)) k;exact .pure (II v i k y A) (.addr q (p.append B)) d
 exact d.elim
def xU (
 tt:bm (bF×ah)) (i:bm (X×aG)) (h:bF) (c:ak) (d:X):il:=
 match lL tt h with
 |none=>.bad
 |some f=>match c with
  |.val (.st a) k=>bif bb f a then match rN a k d with
   |some ⟨b,l⟩=>.e5 (.val b l) []
   |none=>.bad
   else .bad
  |.ref id e=>match aq i id with
   |some ⟨g,c⟩=>match fw g e with
    |some (.st a)=>bif bb f a then match fJ a d with
     |some (j,b)=>wg g c id (e++(.unst::j)) b
     |none=>.bad
     else .bad
    |_=>.bad
   |none=>.bad
  |_=>.bad
theorem Ou {j:ah} (r:lL E.tt x=Y j) (t:bb j d=bq) (v:fJ d b=Y (n,q)) (u:o.op=.field x c b) (y:a.eval c=c0 (.st d) h) (B:fD d b+q.size<=h.length):(bN a.eval o).run E.P w=.ok (.value (c0 q ((h.drop (fD d b)).take q.size))) w:=by
 obtain⟨k,G,m,p⟩:=lL.ok r;obtain⟨f,C,i,e⟩:=IJ (iV.lay t p) v;have F:=e.pos;have s:k[b]?=Y f:=(by grind);simp only[mC] at i;have z:a.eval c=.agg h.toArray:=y;have A:(part f.type h.toArray f.offset).run E.P w=.ok (c0 q ((h.drop (fD d b)).take q.size)) w:=by
  simp only[part,bW,e.isAgg,b1,i];cases g:pA q with
  |true=>
   rw[F4 g];simp only[cj,bW,e.sizeOf,b1,ct];grind
  |false=>
   have l:=Kq e g;rw[F3 g,l];have D:fD d b<h.length:=aa;have:(h.drop (fD d b)).take 1=[h[fD d b]]:=(by grind [List.drop_eq_getElem_cons]);simp_all
 simp[bN,u,z,Instr.field,b7 m,s,asAgg,A]
theorem XA (m:cK C st a.tmps w I rt fp) (u:o.op=.field x c b) (d:(xU E.tt st.h x (aV st.g c) b).K Q):Yields E C st a w I rt fp o Q:=by
 have j:=m.aV c;unfold xU at d;split at d
 ·exact d.elim
 rename_i D s;generalize y:a.eval c=P at j;split at d
 ·rename_i f J l;cases e:bb D f with
  |false=>rw[e] at d;exact d.elim
  |true=>
   rw[e] at d;simp only[bG] at d;split at d
   case h_2=>exact d.elim
   rename_i q R t;rw[l] at j;cases j with|val A=>
   obtain⟨B,i⟩:=IM t;obtain⟨H,O⟩:=IL (τ:=f) A t;have G:=A.len;simp only[ah.size] at G;exact .pure (Ou s e i u y aa) (.val H) d
 ·rename_i id M l;split at d
  case h_2=>exact d.elim
  rename_i L J p;split at d
  case h_2=>exact d.elim
  rename_i f F;cases e:bb D f with
  |false=>rw[e] at d;exact d.elim
  |true=>
   rw[e] at d;simp only[bG] at d;split at d
   case h_2=>exact d.elim
   rename_i B q i;rw[l] at j;cases j with|ref v n=>
   rename_i S z r;rw[p] at v;cases v;have:=n.ty;rw[F] at this;cases this;obtain⟨ay,N⟩:=m.Sc p n;have k:a5 w (.st f) z r (.unst::B) q (z.map λk=>(k.1,k.2+fD f b)) ((r.drop (fD f b)).take q.size):=a5.EU i;exact KM m p (n.append k) (Ou s e i u y (by rw[ay];exact xV i)) d
 exact d.elim
def vY (f:bm (X×aG)) (b:ak):il:=
 match b with
 |.val (.ptr h d) b=>.part d.den (λc=>b=Y c) (λc=>(.val (.ptr h d) (Y c),[]))
 |.ref id a=>match aq f id with
  |some ⟨i,_⟩=>match fw i a with
   |some (.optr _)=>.e5 (.ref id a) []
   |_=>.bad
  |none=>.bad
 |.addr id a=>.e5 (.addr id a) []
 |.eA e g=>.e5 (.eA e g) []
 |_=>.bad
theorem ZU (p:cK C st a.tmps w I rt fp) (M:o.op=.nilCheck c) (b:(vY st.h (aV st.g c)).K Q):Yields E C st a w I rt fp o Q:=by
 have d:=p.aV c;unfold vY at b;generalize N:a.eval c=F at d;split at b
 ·rename_i u l m e;obtain⟨m,rfl,b⟩:=b;rw[e] at d;cases d with|val D=>
  obtain⟨_,f,k,n,rfl,ay,z,A,B⟩:=D;exact .pure (v:=.pointer (Y ⟨f,k,bo⟩)) (by simp_all [bN,c0]) (.val (τ:=.ptr u l) (x:=Y m) (cs:=[.pointer (Y ⟨f,k,bo⟩)]) ⟨bn,f,k,n,bn,ay,z,A,B⟩) b
 ·rename_i id y e;split at b
  case h_2=>exact b.elim
  rename_i G m j;split at b
  case h_2=>exact b.elim
  rename_i l t;rw[e] at d;cases d with|ref q i=>
  rw[j] at q;cases q;have:=i.ty;rw[t] at this;cases this;obtain⟨f,k,n,rfl,H,J⟩:=pE (p.tree id _ j).1 i;exact .pure (v:=.pointer (Y ⟨f,k,bo⟩)) (by simp_all [bN,c0]) (.ref (τ':=.optr l) j i) b
 ·rename_i id y e;rw[e] at d;cases d with|addr j i=>
  exact .pure (by simp_all [bN]) (.addr j i) b
 ·rename_i L O e;rw[e] at d;cases d with|eA s r=>
  exact .pure (by simp_all [bN]) (.eA s r) b
 exact b.elim
def sX (d:bv ak) (b a:X):Prop:=
 match d with
 |none=>a=b
 |some (.val (.int _) c)=>c=(a:Z)
 |some _=>b4
def wu (tt:bm (bF×ah)) (k:bm (X×aG)) (j:bF) (d:ak) (g f:bv ak):il:=
 match gZ tt j with
 |none=>.bad
 |some h=>match d with
  |.val (.a8 l b) e=>bif bb h b then
   .part ej (λa=>sX g 0 a.1/\sX f e.length a.2/\a.1<=a.2/\a.2<=e.length) (λa=>(.val (.a8 l b) ((e.take a.2).drop a.1),[])) else .bad
  |.ref id c=>match aq k id with
   |some ⟨i,d⟩=>match fw i c with
    |some (.osl b)=>bif bb h b then
     .part (bm b.den×X×X) (λa=>eT i d c (.osl b) a.1/\sX g 0 a.2.1/\sX f a.1.length a.2.2/\a.2.1<=a.2.2/\a.2.2<=a.1.length) (λa=>(.view id c a.2.1 a.2.2,[])) else .bad
    |_=>.bad
   |none=>.bad
  |_=>.bad
def HC (a:Act) (e:eu) (c b:X):Prop:=
 match e with
 |none=>b=c
 |some f=>∃d,a.eval f=.int d b
theorem K0 (p:gZ E.tt x=Y q) (t:bb q d=bq) {j f:eu} (u:o.op=.slice x c j f bo) {g e:X} (y:a.eval c=.slice s g e) (k:HC a j 0 i) (h:HC a f g b) (D:i<=b) (F:b<=e):(bN a.eval o).run E.P w=.ok (.value (.slice (if e=i then s else s.map (·.add (i*d.size))) (b-i) (e-i))) w:=by
 obtain⟨H,B,_,m,n⟩:=gZ.ok p;have v:=(n.lay t).sizeOf w;have ao:(0:Z)<=(b:Z)/\(b:Z)<=(e:Z):=⟨aa,aa⟩;have C:(0:Z)<=(i:Z)/\(i:Z)<=(b:Z):=⟨aa,aa⟩;have l:(al8 bq g e (j.map a.eval) (f.map a.eval) bo).run E.P w=.ok (i,b,e) w:=by
  cases j with
  |none=>
   obtain rfl:i=0:=k;cases f with
   |none=>obtain rfl:b=g:=h;simp[al8]
   |some A=>obtain⟨z,r⟩:=h;simp_all [al8,anv,ali]
  |some J=>
   obtain⟨I,G⟩:=k;cases f with
   |none=>obtain rfl:b=g:=h;simp_all [al8,anv,ali]
   |some A=>
    obtain⟨z,r⟩:=h;simp_all [al8,anv,ali]
 simp[bN,u,y,Instr.sliceAt,Instr.slice,b7 m,l,v]
theorem xk (h:cK C st a.tmps w I rt fp) {d:eu} (c:sX (d.map (aV st.g)) b i):HC a d b i:=by
 cases d with
 |none=>exact c
 |some f=>
  have:=h.aV f;simp only[ji,sX] at c;split at c
  ·grind
  ·rename_i k m e;simp only[eZ] at e;rw[e] at this;subst c;generalize j:a.eval f=n at this;cases this with|val l=>obtain⟨_,rfl⟩:=l;exact⟨k,j⟩
  grind
theorem afh (e:cK C st a.tmps w I rt fp) {L y:eu} (z:o.op=.slice T c L y bo) (b:(wu E.tt st.h T (aV st.g c) (L.map (aV st.g)) (y.map (aV st.g))).K Q):Yields E C st a w I rt fp o Q:=by
 have r:=e.aV c;unfold wu at b;split at b
 ·exact b.elim
 rename_i O v;generalize D:a.eval c=co at r;split at b
 ·rename_i ad i F u;cases f:bb O i with
  |false=>rw[f] at b;exact b.elim
  |true=>
   rw[f] at b;obtain⟨⟨d,m⟩,⟨j,k,l,s⟩,b⟩:=b;simp only at j k l s b;rw[u] at r;cases r with|val ap=>
   obtain⟨_,P,q,rfl,ay,M,N⟩:=ap;have t:=K0 (w:=w) v f z D (xk e j) (xk e k) l aa;have V:((F.take m).drop d).length=m-d:=(by grind);refine .pure t (.val (τ:=.a8 ad i) (x:=(F.take m).drop d) (cs:=[_]) ⟨bn,_,q-d,by rw[V],aa,?_,?_⟩) b
   ·intro bl;by_cases bs:q=d
    ·omega
    simp_all
   by_cases bx:m=d
   ·grind
   right;rcases N with rfl|⟨p,n,rfl,R,an⟩
   ·grind
   refine⟨p,n+d*i.size,by rw[au aa];simp[ak5],R,λci av y=>?_⟩;grind
 ·rename_i id am u;split at b
  case h_2=>exact b.elim
  rename_i a0 av B;split at b
  case h_2=>exact b.elim
  rename_i i ce;cases f:bb O i with
  |false=>rw[f] at b;exact b.elim
  |true=>
   rw[f] at b;obtain⟨⟨F,d,m⟩,⟨G,j,k,l,s⟩,b⟩:=b;simp only at G j k l s b;rw[u] at r;cases r with|ref J H=>
   rw[B] at J;cases J;obtain⟨rfl,a3,A,_⟩:=e.k9 B G H;obtain⟨P,q,rfl,A⟩:=A;rcases A with⟨rfl,rfl,rfl,_⟩|⟨p,n,a4,rfl,_,ay,M,N,an⟩
   ·have S:m=0:=(by grind);subst S;have U:d=0:=aa;subst U;exact .pure (K0 (w:=w) v f z D (xk e j) (xk e k) (bd _) (bd _)) (.mv id am) b
   have t:=K0 (w:=w) v f z D (xk e j) (xk e k) l aa;have:(if q=d then Y (⟨p,n,bo⟩:Addr) else(Y (⟨p,n,bo⟩:Addr)).map (·.add (d*i.size)))=Y ⟨p,if q=d then n else n+d*i.size,bo⟩:=(by grind [ak5]);rw[this] at t;exact .pure t (.view B H l s M) b
 exact b.elim
end
end
section
def i9:(i:ah)->ey->bv i.den
 |.int d,b=>match b with
  |[.int e n]=>if d=e then Y n else bo
  |_=>bo
 |.bool,b=>match b with
  |[.bool c]=>Y c
  |_=>bo
 |.str,b=>match b with
  |[.string s]=>Y s
  |_=>bo
 |.a8 _ _,b=>match b with
  |[.slice bo 0 0]=>Y []
  |_=>bo
 |.osl _,b=>match b with
  |[.slice bo 0 0]=>Y []
  |_=>bo
 |.ptr _ _,b=>match b with
  |[.pointer bo]=>Y bo
  |_=>bo
 |.st f,b=>i9 f b
 |.pr a c,b=>match i9 a (b.take a.size),i9 c (b.drop a.size) with
  |some g,Y h=>Y (g,h)
  |_,_=>bo
 |.nil,b=>match b with
  |[]=>Y ()
  |_=>bo
 |.optr _,_=>bo
 |.eF,_=>bo
 |.mp _,_=>bo
 |.fB _ _,_=>bo
 |.fn _ _,_=>bo
theorem qp {M:eE->X->Prop} {w:bC}:∀{τ:ah} {d:ey} {c:τ.den},i9 τ d=Y c->aU M w τ d c []
 |.int j,d,c,b=>by
  simp only[i9] at b;split at b
  ·split at b
   ·rename_i f;cases b;subst f;exact⟨bn,bn⟩
   grind
  grind
 |.bool,d,c,b=>by simp only[i9] at b;split at b<;>cases b;exact⟨bn,bn⟩
 |.str,d,c,b=>by simp only[i9] at b;split at b<;>cases b;exact⟨bn,bn⟩
 |.a8 _ _,d,c,b=>by simp only[i9] at b;split at b<;>cases b;exact⟨bn,bo,0,bn,bd _,λ_=>rfl,.inl bn⟩
 |.osl _,d,c,b=>by simp only[i9] at b;split at b<;>cases b;exact⟨bo,0,bn,.inl ⟨bn,bn,bn,bn⟩⟩
 |.ptr _ _,d,c,b=>by simp only[i9] at b;split at b<;>cases b;exact⟨bn,bn⟩
 |.st i,d,c,b=>qp (τ:=i) (by grind [i9])
 |.pr a e,d,c,b=>by
  simp only[i9] at b;split at b
  ·rename_i c k g h;cases b;exact⟨[],[],bn,qp (τ:=a) g,qp (τ:=e) h⟩
  grind
 |.nil,d,c,b=>by simp only[i9] at b;split at b<;>cases b;exact⟨bn,bn⟩
 |.optr _,d,c,b=>by grind [i9]
 |.eF,d,c,b=>by grind [i9]
 |.mp _,d,c,b=>by grind [i9]
 |.fB _ _,d,c,b=>by grind [i9]
 |.fn _ _,d,c,b=>by grind [i9]
theorem Ow (d:X):∀(e:ey) (b:X) (a:ev),let f:=(e.zipIdx b).foldl (λa (h:Value×X)=>a.setIfInBounds (d+h.2) h.1) a
 f.size=a.size/\(∀c,c<d+b\/d+b+e.length<=c->f[c]?=a[c]?)/\(d+b+e.length<=a.size->∀c g,e[c]?=Y g->f[d+b+c]?=Y g)
 |[],b,a=>⟨bn,λ_ _=>rfl,λ_ c g i=>by grind⟩
 |x::e,b,a=>by obtain⟨j,k,l⟩:=Ow d e (b+1) (a.setIfInBounds (d+b) x);grind [List.zipIdx_cons]
theorem AO (k:X->bv ej):∀(j:bm (X×Value)) (c:ev),(∀a∈j,∃f b,k a.1=Y (f,b)/\a.2.cells.size=b/\f+b<=c.size)->(j.Pairwise λa g=>∀o b m q,k a.1=Y (o,b)->k g.1=Y (m,q)->o+b<=m\/m+q<=o)->∃g,aoA k c j=Y g/\g.size=c.size/\(∀d,(∀a∈j,∀o b,k a.1=Y (o,b)->d<o\/o+b<=d)->g[d]?=c[d]?)/\(∀a∈j,∀o b,k a.1=Y (o,b)->∀d e,a.2.cells[d]?=Y e->g[o+d]?=Y e)
 |[],c,_,_=>⟨c,bn,bn,λ_ _=>rfl,λa h=>by cases h⟩
 |(i,e)::j,c,v,r=>by
  obtain⟨f,b,t,x,D⟩:=v (i,e) ac;simp only at t x;rw[m7] at r;have w:e.cells.zipIdx.foldl (λl (a:Value×X)=>l.setIfInBounds (f+a.2) a.1) c=(e.cells.toList.zipIdx 0).foldl (λl (a:Value×X)=>l.setIfInBounds (f+a.2) a.1) c:=(by rw[<-Array.foldl_toList,Array.toList_zipIdx]);obtain⟨n,f2,p⟩:=Ow f e.cells.toList 0 c;rw[<-w] at n f2 p;simp only[Array.length_toList] at f2 p;generalize A:e.cells.zipIdx.foldl (λl (a:Value×X)=>l.setIfInBounds (f+a.2) a.1) c=u at n f2 p;obtain⟨g,E,y,z,aS⟩:=AO k j u (λa h=>by
   grind) r.2
  refine⟨g,?_,by rw[y,n],λd s=>?_,λa h m q B d F C=>?_⟩
  ·grind [aoA,decide]
  ·rw[z d (λa h=>s a (gC _ h)),f2 d (by have:=s (i,e) ac f b t;omega)]
  rcases fC.1 h with rfl|h
  ·grind
  grind
section
variable {E:fF} {C:e4} {st:aQ} {a:Act} {w:bC} {I:X->Prop} {rt:X->ey} {fp:X->aj5} {o:bR} {Q:ak->bm (X×aG)->Prop}
theorem fy.alloc {w:bC} {c:ev} {e:bF} {o:X} {d:ey} (f:∀a b,d[a]?=Y b->c[o+a]?=Y b):fy (w.alloc (.cells c e)) w.heap.size o d:=λa b g=>by simp_all
theorem iW.alloc {w:bC} {a:ev} {c:bF} {d b:X} (e:b<=a.size):iW (w.alloc (.cells a c)) w.heap.size d b:=λg _ f=>by grind [World.cell?_alloc_new,World.frozen?_alloc_new]
theorem Yields.new {d:X} {t:aG} {cs:ey} {f:aj5} {cells:ev} {T:bF} (k:aq st.h d=bo) (e:cK C st a.tmps w I rt fp) (n:(bN a.eval o).run E.P w=.ok (.value R) (w.alloc (.cells cells T))) (q:R=c0 t.1 cs) (p:aU (be I C.B) (w.alloc (.cells cells T)) t.1 cs t.2 f) (i:∀c∈f,c=w.heap.size) (l:f.Nodup) (m:Q (.ref d []) [(d,t)]):Yields E C st a w I rt fp o Q:=by
 refine⟨R,_,I,λ_=>cs,λ_=>f,.ref d [],[(d,t)],n,.alloc w _,λ_ b=>b,λ_ b=>.inl b,.one k p l (λc g=>?_),?_,m⟩
 ·rw[i c g];exact⟨bd _,ac,λb=>by have:=e.ib _ (.inl b);omega⟩
 rw[q];have j:aq ([(d,t)]++st.h) d=Y t:=(by rw[zh,di,aw bn]);refine .ref (t:=t) (τ':=t.1) (loc:=bo) j ?_;grind [a5.here,di,fk]
def vO (tt:bm (bF×ah)) (g:bm (X×ah)) (h:bm (X×aG)) (b:X) (f:bF) (e d:ak):il:=
 match gZ tt f,aq g b,aq h b with
 |some i,Y (.osl c),bo=>match mw c,e,d with
  |some j,.val (.int _) e,.val (.int _) d=>bif bb i c&&b2 c.size 2000 then
   .part ej (λa=>e=(a.1:Z)/\d=(a.2:Z)/\a.1<=a.2/\a.2<=hJ) (λa=>(.ref b [],[(b,⟨.osl c,bI a.1 j⟩)])) else .bad
  |_,_,_=>.bad
 |_,_,_=>.bad
theorem Zn (a:ev) (d b c:X) (e:Value) (_hz:0<a.size) (h:a[c]?=Y e) (g:b<d):(anw a (d*a.size))[b*a.size+c]?=Y e:=by have i:c<a.size:=(sj.1 h).1;have f:(b+1)*a.size<=d*a.size:=iY _ g;rw[l3,mB] at f;grind [al9,Nat.add_mul_mod_self_right,Nat.mod_eq_of_lt,anw]
theorem Zp (p:cK C st a.tmps w I rt fp) {m:bM} (V:o.op=.makeSlice x m c) (e:(vO E.tt l st.h b x (aV st.g m) (aV st.g c)).K Q):Yields E C st a w I rt fp o Q:=by
 have r:=p.aV m;have q:=p.aV c;unfold vO at e;split at e
 case h_2=>exact e.elim
 rename_i bx v R co U;split at e
 case h_2=>exact e.elim
 rename_i ci a3 d1 a0 d0 an J H;cases j:(bb bx v&&b2 v.size 2000) with
 |false=>rw[j] at e;exact e.elim
 |true=>
  rw[j] at e;simp only[bk] at j;obtain⟨⟨n,i⟩,⟨rfl,rfl,M,A⟩,e⟩:=e;simp only at M A e;have dg:=gX j.2;rw[J] at r;rw[H] at q;generalize am:a.eval m=d5 at r;generalize ad:a.eval c=d4 at q;cases r with|val bl=>cases q with|val bs=>
  obtain⟨_,rfl⟩:=bl;obtain⟨_,rfl⟩:=bs;obtain⟨ap,y,_,N,O⟩:=gZ.ok R;have D:=O.lay j.1;obtain⟨t,k,ay,a4,d2,G⟩:=wH D an;obtain⟨ds,_,u,_⟩:=D.info;have z:=u.info;rw[ay] at z;cases z;have F:k.cells.size=v.size:=(by have:=(G (be I C.B) w).len;omega);have S:(t.bytes:Z)*(i:Z)<=281474976710656:=(by have:t.bytes*i<=48000*hJ:=m8 (by have:=u.bytes;omega) A;grind [ama,hJ]);have s:=run_make (P:=E.P) w x y t k N ay a4 a3 a0 (n:Z) (i:Z) aa aa S (by grind [hJ]);simp only[fU,u.size] at s;rw[<-F] at s;refine .new (d:=b) (cells:=anw k.cells (i*k.cells.size)) (T:=y) (cs:=[.slice (Y ⟨w.heap.size,0,bo⟩) n i]) (f:=[w.heap.size]) U p ?_ bn ?_ ac ac e
  ·simp[bN,V,am,ad,c0,s]
  refine⟨Y ⟨w.heap.size,0,bo⟩,i,ac,.inr ⟨w.heap.size,0,bI n [],bn,ac,ac,by grind,iW.alloc (by grind [size_madeCells]),λav ce L dl cv=>?_⟩⟩;have c2:av<n:=(by grind);obtain rfl:ci=ce:=(by grind);obtain rfl:[]=L:=(by grind);refine⟨k.cells.toList,aa,fy.alloc (λap d3 c1=>?_),G _ _⟩;rw[mC,<-F];grind [Zn]
def xa (tt:bm (bF×ah)) (d:bm (X×ah)) (e:bm (X×aG)) (a:X) (c:bF):il:=
 match aq tt c,aq d a,aq e a with
 |some f,Y b,bo=>match mw b with
  |some g=>bif bb f b then .e5 (.ref a []) [(a,⟨.optr b,g⟩)] else .bad
  |none=>.bad
 |_,_,_=>.bad
theorem Yields.box {g:q.den} {cs:ey} (p:aq st.h b=bo) (i:cK C st a.tmps w I rt fp) (_hT:fo E.P q x) (s:(bN a.eval o).run E.P w=.ok (.value (.pointer (Y ⟨w.heap.size,0,bo⟩))) (w.alloc (.cells cs.toArray x))) (u:∀k,(∀e c,be I C.B e c->c8 w k c)->aU (be I C.B) k q cs g []) (r:Q (.ref b []) [(b,⟨.optr q,g⟩)]):Yields E C st a w I rt fp o Q:=by have l:∀e c,be I C.B e c->c8 w (w.alloc (.cells cs.toArray x)) c:=λe c m=>.of_heap ((hz.alloc w _).heap c (i.ib c (nm m)));have j:=u _ l;have n:=j.len;refine .new (d:=b) (t:=⟨.optr q,g⟩) (cs:=[.pointer (Y ⟨w.heap.size,0,bo⟩)]) (f:=[w.heap.size]) p i s bn ⟨w.heap.size,0,[],cs,bn,bn,n,fy.alloc (λy z v=>by grind),iW.alloc (by grind),j⟩ ac ac r
theorem U8 (g:cK C st a.tmps w I rt fp) (k:o.op=.alloc x) (c:(xa E.tt l st.h b x).K Q):Yields E C st a w I rt fp o Q:=by
 unfold xa at c;split at c
 case h_2=>exact c.elim
 rename_i f q i s j;split at c
 case h_2=>exact c.elim
 rename_i y m;cases d:bb f q with
 |false=>rw[d] at c;exact c.elim
 |true=>
  rw[d] at c;have e:=(E.ok x f i).lay d;obtain⟨t,r,ay,n,u,p⟩:=wH e m;refine .box (cs:=r.cells.toList) j g e ?_ (λv _=>p _ _) c;simp[bN,k,Instr.alloc,akl,akA,ay,n,newVar,akN]
def zE (tt:bm (bF×ah)) (e:bm (X×aG)) (a:X) (d:bF) (b:ak):il:=
 match aq tt d,aq e a with
 |some f,bo=>match b with
  |.val c b=>bif bb f c then .e5 (.ref a []) [(a,⟨.optr c,b⟩)] else .bad
  |_=>.bad
 |_,_=>.bad
theorem VF (j:cK C st a.tmps w I rt fp) (t:o.op=.box x c) (d:(zE E.tt st.h b x (aV st.g c)).K Q):Yields E C st a w I rt fp o Q:=by
 have f:=j.aV c;unfold zE at d;split at d
 case h_2=>exact d.elim
 rename_i l r s;split at d
 case h_2=>exact d.elim
 rename_i y B p;cases e:bb l y with
 |false=>rw[e] at d;exact d.elim
 |true=>
  rw[e] at d;rw[p] at f;generalize u:a.eval c=z at f;cases f with|val i=>
  rename_i m;have k:=(E.ok x l r).lay e;refine .box (cs:=m) s j k ?_ (λA q=>i.mono (λv n e=>⟨e,q v n e⟩) ac) d;simp[bN,t,u,amN,newVar,akN,oT k i.len i.one]
def coe (a:ah) (b:ak):bv a.den:=
 match b with
 |.val d b=>if h:d=a then Y (h▸b) else bo
 |.dh c=>i9 a c.cells.toList
 |_=>bo
def zH (a:ah):bm ak->bv (bm a.den)
 |[]=>Y []
 |x::c=>match coe a x,zH a c with
  |some d,Y b=>Y (d::b)
  |_,_=>bo
theorem HO (h:fo E.P d x) (c:cP e w u rt fp V R) {f:d.den} (a:coe d V=Y f):aU e w d R.cells.toList f []:=by
 unfold coe at a;split at a
 ·rename_i j i;split at a
  ·rename_i g;subst g;cases a;cases c with|val b=>
   rw[oT h b.len b.one];exact b
  grind
 ·cases c;exact qp a
 grind
def wo:bm (X×bM)->X->bA
 |[],_=>bq
 |q::b,a=>bH q.1 a&&wo b (a+1)
def xl (tt:bm (bF×ah)) (g:bm (X×ah)) (i:bm (X×aG)) (h:bM->ak) (b:X) (f:bF) (d:X) (c:bm (X×bM)):il:=
 match gZ tt f,aq i b with
 |some e,bo=>
  let a:=match aq g b with|some (.osl a)=>a|_=>e
  bif bb e a&&b2 a.size 2000&&b2 d 1000&&wo c 0&&bH c.length d then
   match zH a (c.map λj=>h j.2) with
   |some k=>.e5 (.ref b []) [(b,⟨.osl a,k⟩)]
   |none=>.bad
  else .bad
 |_,_=>.bad
theorem Np {d:ah}:∀{c:bm ak} {b:bm d.den},zH d c=Y b->b.length=c.length/\∀(e:X) (f:d.den),b[e]?=Y f->∃y:ak,c[e]?=Y y/\coe d y=Y f
 |[],b,a=>by cases a;grind
 |y::c,b,a=>by
  simp only[zH] at a;split at a
  ·rename_i l k j g;cases a;obtain⟨h,i⟩:=Np g;grind
  grind
theorem sa:∀{e:bm (X×bM)} {d:X},wo e d=bq->∀(a:X) (b:X×bM),e[a]?=Y b->b.1=d+a
 |[],_,_,a,b,c=>by grind
 |x::e,d,c,a,b,f=>by
  simp only[wo,bk] at c;cases a with
  |zero=>simp_all
  |succ a=>have:=sa c.2 a b (by grind);omega
theorem VJ (G:cK C st a.tmps w I rt fp) {j:bT (X×bM)} (d0:o.op=.buildSlice x b j) (k:(xl E.tt l st.h (aV st.g) i x b j.toList).K Q):Yields E C st a w I rt fp o Q:=by
 unfold xl at k;split at k
 case h_2=>exact k.elim
 rename_i a0 cv c1;generalize fr:(match aq l i with|some (.osl e)=>e|_=>a0)=e at k;simp only at k;cases n:(bb a0 e&&b2 e.size 2000&&b2 b 1000&&wo j.toList 0&&bH j.toList.length b) with
 |false=>rw[n] at k;exact k.elim
 |true=>
  rw[n] at k;simp only[bk] at n;obtain⟨⟨⟨⟨a4,A⟩,D⟩,F⟩,O⟩:=n;have A:=gX A;have D:=gX D;have O:j.toList.length=b:=fA O;simp only[bG] at k;split at k
  case h_2=>exact k.elim
  rename_i r d5;obtain⟨am,M,_,ci,co⟩:=gZ.ok cv;have u:=co.lay a4;obtain⟨J,d9,an,_⟩:=u.info;have fl:=u.pos;obtain⟨bl,bs⟩:=Np d5;simp only[eP] at bl;have d4:r.length=b:=aa;have eq:b*e.size<=16777216:=(by have:b*e.size<=1000*2000:=m8 D A;omega);have R:∀(c:X) (m:X×bM),j.toList[c]?=Y m->∃p:e.den,r[c]?=Y p/\aU (be I C.B) w e (a.eval m.2).cells.toList p []:=(by intro c m v;have dl:c<r.length:=(by grind);obtain⟨f6,ao,y⟩:=bs c r[c] ac;rw[jQ,v] at ao;simp only[ji,eZ] at ao;subst ao;exact⟨r[c],ac,HO u (G.aV m.2) y⟩);obtain⟨ad,c2,dg⟩:∃a3:ev,(b*e.size=0->a3=#[])/\(b*e.size≠0->∃s,(akl M).run E.P w=.ok s w/\a3=s.cells):=by
   by_cases q:b*e.size=0
   ·simp_all
   obtain⟨s,_,d7⟩:=fo.I3 u;exact⟨s.cells,λk=>absurd k q,λ_=>⟨s,by simp[akl,akA,an.info,d7 J an.info],bn⟩⟩
  obtain⟨ap,av,f0,f1,aS⟩:=AO (λJ=>Y (J*e.size,e.size)) (j.toList.map λm=>(m.1,a.eval m.2)) ((Array.range (b*e.size)).map (ad[· %ad.size]!)) (by
   intro m d2;obtain⟨fT,d1,rfl⟩:=eQ.1 d2;obtain⟨c,v,rfl⟩:=g1.1 d1;have z:j.toList[c]?=Y j.toList[c]:=ac;obtain⟨p,_,H⟩:=R c _ z;have ek:=sa F c _ z;have:(c+1)*e.size<=b*e.size:=iY _ aa;rw[l3,mB] at this;refine⟨_,_,bn,by have:=H.len;omega,?_⟩;grind) (by
   rw[ik];intro c L v ds dl ft f3 fz f4 ao y;simp only[m6,eZ,iy] at ao y;simp only[eP] at v ds;have bx:=sa F c j.toList[c] ac;have f2:=sa F L j.toList[L] ac;obtain⟨rfl,rfl⟩:=ao;obtain⟨rfl,rfl⟩:=y;left;rw[bx,f2];have:(0+c+1)*e.size<=(0+L)*e.size:=iY _ aa;grind)
  have fn:ap.size=b*e.size:=(by grind);refine .new (d:=i) (t:=⟨.osl e,r⟩) (cells:=ap) (T:=M) (cs:=[.slice (Y ⟨w.heap.size,0,bo⟩) b b]) (f:=[w.heap.size]) c1 G ?_ bn ?_ ac ac k
  ·have d3:=u.sizeOf w;have ex:¬(16777216<b*e.size):=aa;have S:(amO (λp=>(p.fst,a.eval p.snd)) j).toList=j.toList.map λm=>(m.1,a.eval m.2):=ac;simp only[bN,d0,Instr.buildSlice,bW,b7 ci,b1,d3];rw[au aa];by_cases q:b*e.size=0
   ·rw[aw q];obtain rfl:=c2 q;rw[S];simp only[bW,ct,b1,av,akN,newObj];rfl
   rw[au q];obtain⟨s,d6,rfl⟩:=dg q;rw[S];simp only[bW,ct,b1,d6,av,akN,newObj];rfl
  refine⟨Y ⟨w.heap.size,0,bo⟩,b,by rw[d4],.inr ⟨w.heap.size,0,bI b [],bn,ac,by grind,(by grind),iW.alloc aa,λc p ce H el=>?_⟩⟩;have v:c<b:=(by grind);obtain rfl:[]=ce:=(by grind);have z:j.toList[c]?=Y (j.toList[c]'(by omega)):=by simp
  obtain⟨f5,V,U⟩:=R c _ z;rw[H] at V;obtain rfl:=gq V;refine⟨_,U.len,fy.alloc (λam d8 em=>?_),U.mono (λfs N n=>⟨n,.of_heap ((hz.alloc w _).heap N (G.ib N (nm n)))⟩) ac⟩;have:=aS (j.toList[c].1,a.eval j.toList[c].2) (eQ.2 ⟨j.toList[c],cF _,bn⟩) _ _ rfl am d8 (by grind);grind [sa]
end
end
section
def ml (a:bm (X×bM)) (b:X):eu:=aq a b
def qI (
 g:bM->ak) (e:bm (X×bM)):ah->X->bv aG
 |.pr a h,d=>
  match(match ml e d with
   |none=>match mw a with
    |some j=>Y (⟨a,j⟩:aG)
    |none=>bo
   |some c=>match g c with
    |.val f b=>bif bb a f then Y ⟨f,b⟩ else bo
    |.dh i=>match i9 a i.cells.toList with
     |some b=>Y ⟨a,b⟩
     |none=>bo
    |_=>bo),qI g e h (d+1) with
  |some c,Y b=>Y ⟨.pr c.1 b.1,(c.2,b.2)⟩
  |_,_=>bo
 |.nil,_=>Y ⟨.nil,()⟩
 |_,_=>bo
def mO:bm (X×bM)->X->bA
 |[],_=>bq
 |q::b,a=>b2 a q.1&&mO b (q.1+1)
def gL:ah->X
 |.pr _ a=>gL a+1
 |_=>0
theorem I7:∀{e:bm (X×bM)} {d:X},mO e d=bq->∀b∈e,d<=b.1
 |[],_,_,b,a=>by cases a
 |x::e,d,a,b,c=>by
  simp only[mO,bk] at a;rcases fC.1 c with rfl|c
  ·simp_all
  have:=I7 a.2 b c;have:=gX a.1;omega
def I9:∀{b:bm (X×bM)} {d:X},mO b d=bq->b.Pairwise λc f=>c.1<f.1
 |[],_,_=>amb
 |x::b,d,a=>by simp only[mO,bk] at a;exact apR (λc e=>by have:=I7 a.2 c e;omega) (I9 a.2)
theorem A5 {e:Type}:∀{d:bm (X×e)} {b:X} {c:e},aq d b=Y c->(b,c)∈d
 |[],_,_,a=>by cases a
 |(f,v0)::r,b,c,a=>by
  rw[di] at a;split at a
  ·grind
  exact gC _ (A5 a)
def Jy {g:Type}:∀{e:bm (X×g)} {d:X},aq e d=bo->∀c∈e,c.1≠d
 |[],_,_,c,a=>by cases a
 |(h,v0)::r,d,b,c,a=>by
  rw[di] at b;split at b
  ·cases b
  rename_i f;rcases fC.1 a with rfl|a
  ·exact f
  exact Jy b c a
theorem r0 {j:bY}:∀{u:ah} {l:bm akr} {e:X} {f:ey},iV j u l e f->∀d,d<gL u->∃h i,fJ u d=Y (h,i)
 |.pr a g,k::m,e,f,c,0,_=>⟨_,_,bn⟩
 |.pr a g,k::m,e,f,c,d+1,b=>by obtain⟨h,i,n⟩:=r0 (u:=g) c.2.2.2.2 d (by grind [gL]);grind [fJ]
 |.pr _ _,[],_,_,c,_,_=>c.elim
 |.int _,_,_,_,_,_,b=>by grind [gL]
 |.bool,_,_,_,_,_,b=>by grind [gL]
 |.str,_,_,_,_,_,b=>by grind [gL]
 |.a8 _ _,_,_,_,_,_,b=>by grind [gL]
 |.osl _,_,_,_,_,_,b=>by grind [gL]
 |.ptr _ _,_,_,_,_,_,b=>by grind [gL]
 |.optr _,_,_,_,_,_,b=>by grind [gL]
 |.st _,_,_,_,_,_,b=>by grind [gL]
 |.nil,_,_,_,_,_,b=>by grind [gL]
 |.eF,_,_,_,_,_,b=>by grind [gL]
theorem vB:∀{u:ah} {e c:X} {s s':bm a6} {t t':ah},fJ u e=Y (s,t)->fJ u c=Y (s',t')->e<c->fD u e+t.size<=fD u c
 |.pr a f,0,c+1,s,s',t,t',b,d,_=>by simp only[fJ,eZ,iy] at b;obtain⟨_,rfl⟩:=b;simp[fD]
 |.pr a f,e+1,c+1,s,s',t,t',b,d,k=>by
  simp only[fJ] at b d;cases g:fJ f e with
  |none=>grind
  |some i=>
   cases h:fJ f c with
   |none=>grind
   |some j=>
    rw[g] at b;rw[h] at d;simp only[eZ,iy] at b d;obtain⟨_,rfl⟩:=b;obtain⟨_,rfl⟩:=d;have:=vB (u:=f) (s:=i.1) (t:=i.2) (s':=j.1) (t':=j.2) g h aa;grind [fD]
 |.int _,_,_,_,_,_,_,b,_,_=>by cases b
 |.bool,_,_,_,_,_,_,b,_,_=>by cases b
 |.str,_,_,_,_,_,_,b,_,_=>by cases b
 |.a8 _ _,_,_,_,_,_,_,b,_,_=>by cases b
 |.osl _,_,_,_,_,_,_,b,_,_=>by cases b
 |.ptr _ _,_,_,_,_,_,_,b,_,_=>by cases b
 |.optr _,_,_,_,_,_,_,b,_,_=>by cases b
 |.st _,_,_,_,_,_,_,b,_,_=>by cases b
 |.nil,_,_,_,_,_,_,b,_,_=>by cases b
 |.eF,_,_,_,_,_,_,b,_,_=>by cases b
theorem IK:∀{u:ah} {c:X} {s:bm a6} {t:ah},fJ u c=Y (s,t)->c<gL u
 |.pr a d,0,_,_,_=>by simp[gL]
 |.pr a d,c+1,s,t,b=>by
  simp only[fJ] at b;split at b
  ·rename_i e f;have:=IK (u:=d) (s:=e.1) (t:=e.2) f;grind [gL]
  grind
 |.int _,_,_,_,b=>by cases b
 |.bool,_,_,_,b=>by cases b
 |.str,_,_,_,b=>by cases b
 |.a8 _ _,_,_,_,b=>by cases b
 |.osl _,_,_,_,b=>by cases b
 |.ptr _ _,_,_,_,b=>by cases b
 |.optr _,_,_,_,b=>by cases b
 |.st _,_,_,_,b=>by cases b
 |.nil,_,_,_,b=>by cases b
 |.eF,_,_,_,b=>by cases b
theorem I8:∀{d:bm (X×bM)} {e:X} {b:X×bM},mO d e=bq->b∈d->ml d b.1=Y b.2
 |[],_,_,_,a=>by cases a
 |x::d,e,b,a,c=>by
  simp only[mO,bk] at a;obtain⟨f,g⟩:=x;unfold ml;rw[di];rcases fC.1 c with rfl|c
  ·rw[aw bn]
  have:=I7 a.2 b c;simp only at this;rw[au aa];exact I8 a.2 c
section
variable {E:fF} {C:e4} {st:aQ} {a:Act} {w:bC} {I:X->Prop} {rt:X->ey} {fp:X->aj5} {o:bR} {Q:ak->bm (X×aG)->Prop}
def zD (tt:bm (bF×ah)) (e:bM->ak) (d:bF) (a:bm (X×bM)):il:=
 match lL tt d with
 |none=>.bad
 |some c=>bif mO a 0&&a.all (λf=>b9 f.1 (gL c)) then match qI e a c 0 with
  |some b=>.e5 (.val (.st b.1) b.2) []
  |none=>.bad
  else .bad
theorem PX {z:bY} {l:eE->X->Prop} {b:bm (X×aG)} {q:bM->ak} {j:bM->Value} (v:∀c,cP l w b rt fp (q c) (j c)) {parts:bm (X×bM)} {cells:ey}:∀{u:ah} {n:X} {B:bm akr} {off:X} {zs:ey} {i:aG},iV z u B off zs->qI q parts u n=Y i->cells.length=off+u.size->(∀e p d,fJ u e=Y (p,d)->(∀c,ml parts (n+e)=Y c->(j c).cells.size=d.size/\(cells.drop (off+fD u e)).take d.size=(j c).cells.toList)/\(ml parts (n+e)=bo->(cells.drop (off+fD u e)).take d.size=(zs.drop (fD u e)).take d.size))->aU l w i.1 (cells.drop off) i.2 []/\i.1.size=u.size
 |.pr a A,n,L::V,off,zs,i,r,g,E,o=>by
  simp only[qI] at g;split at g
  case h_2=>cases g
  rename_i c am h I;cases g;obtain⟨M,C,N,⟨R,an,ay,T,U⟩,D⟩:=r;have t:=o 0 _ a bn;simp only[l4,fD,m5] at t;have O:aU l w c.1 ((cells.drop off).take a.size) c.2 []/\c.1.size=a.size:=by
   split at h
   ·grind [wH]
   rename_i k F;have f:=v k;obtain⟨S,x⟩:=t.1 k F;split at h
   ·rename_i d K m;cases s:bb a d with
    |false=>grind
    |true=>
     rw[s] at h;cases h;rw[m] at f;rw[x];generalize H:j k=J at f;cases f with|val y=>
     rw[oT (C.lay s) y.len y.one];grind [bb.size]
   ·rename_i J m;split at h
    ·rename_i K Q;cases h;rw[m] at f;rw[x];generalize H:j k=ad at f;cases f;grind [qp]
    grind
   grind
  have P:=PX v (parts:=parts) (cells:=cells) (u:=A) (n:=n+1) (off:=off+a.size) (zs:=zs.drop a.size) D I (by grind [ah.size]) (by
   intro e p d G;have:=o (e+1) (.snd::p) d (by simp[fJ,G]);grind [al5,fD])
  refine⟨⟨[],[],bn,?_,?_⟩,by grind [ah.size]⟩
  ·grind
  simp_all
 |.nil,n,[],off,zs,i,r,g,E,o=>by cases g;exact⟨⟨bn,by grind [List.drop_eq_nil_iff,ah.size]⟩,bn⟩
 |.pr _ _,_,[],_,_,_,b,_,_,_=>b.elim
 |.nil,_,_::_,_,_,_,b,_,_,_=>b.elim
 |.int _,_,_,_,_,_,b,_,_,_=>by cases b
 |.bool,_,_,_,_,_,b,_,_,_=>by cases b
 |.str,_,_,_,_,_,b,_,_,_=>by cases b
 |.a8 _ _,_,_,_,_,_,b,_,_,_=>by cases b
 |.osl _,_,_,_,_,_,b,_,_,_=>by cases b
 |.ptr _ _,_,_,_,_,_,b,_,_,_=>by cases b
 |.optr _,_,_,_,_,_,b,_,_,_=>by cases b
 |.st _,_,_,_,_,_,b,_,_,_=>by cases b
 |.eF,_,_,_,_,_,b,_,_,_=>by cases b
theorem PY {z:bY} {m:eE->X->Prop} {b:bm (X×aG)} {o:bM->ak} {h:bM->Value} (p:∀c,cP m w b rt fp (o c) (h c)) {s:bm (X×bM)}:∀{u:ah} {n:X} {B:bm akr} {r:X} {y:ey} {x:aG},iV z u B r y->qI o s u n=Y x->∀e v g,fJ u e=Y (v,g)->∀c,ml s (n+e)=Y c->(h c).cells.size=g.size
 |.pr a A,n,N::T,r,y,x,E,k,e,v,g,d,c,q=>by
  simp only[qI] at k;split at k
  case h_2=>cases k
  rename_i V ad i I;obtain⟨O,C,P,⟨Q,am,ay,R,S⟩,D⟩:=E;cases e with
  |zero=>
   simp only[fJ,eZ,iy] at d;obtain⟨_,rfl⟩:=d;rw[l4] at q;rw[q] at i;have f:=p c;simp only at i;split at i
   ·rename_i g L j;cases F:bb a g with
    |false=>grind
    |true=>
     rw[j] at f;generalize H:h c=K at f;cases f with|val l=>
     rw[oT (C.lay F) l.len l.one];have:=l.len;grind [bb.size]
   ·rename_i K j;split at i
    ·rename_i L J;rw[j] at f;generalize H:h c=U at f;cases f;have:=(qp (M:=m) (w:=w) J).len;omega
    grind
   grind
  |succ e=>
   simp only[fJ] at d;split at d
   ·rename_i t G;simp only[eZ,iy] at d;obtain⟨_,rfl⟩:=d;exact PY p (u:=A) (n:=n+1) D I e t.1 t.2 G c (by rwa[(aa:n+1+e=n+(e+1))])
   grind
 |.pr _ _,_,[],_,_,_,b,_,_,_,_,_,_,_=>b.elim
 |.nil,_,_,_,_,_,_,_,_,_,_,d,_,_=>by cases d
 |.int _,_,_,_,_,_,b,_,_,_,_,_,_,_=>by cases b
 |.bool,_,_,_,_,_,b,_,_,_,_,_,_,_=>by cases b
 |.str,_,_,_,_,_,b,_,_,_,_,_,_,_=>by cases b
 |.a8 _ _,_,_,_,_,_,b,_,_,_,_,_,_,_=>by cases b
 |.osl _,_,_,_,_,_,b,_,_,_,_,_,_,_=>by cases b
 |.ptr _ _,_,_,_,_,_,b,_,_,_,_,_,_,_=>by cases b
 |.optr _,_,_,_,_,_,b,_,_,_,_,_,_,_=>by cases b
 |.st _,_,_,_,_,_,b,_,_,_,_,_,_,_=>by cases b
 |.eF,_,_,_,_,_,b,_,_,_,_,_,_,_=>by cases b
theorem run_places {P:bY} (w:bC):∀(d:ah) (h:bm akr) (c:X) (g:ey),iV P d h c g->(h.mapM λe=>do alj (e.offset,<-akT e.type):Sem aj7).run P w=.ok ((bJ (gL d)).map λf=>(c+fD d f,match fJ d f with|some k=>k.2.size|none=>0)) w
 |.pr a i,e::l,c,g,b=>by have j:=run_places w i l (c+a.size) (g.drop a.size) b.2.2.2.2;simp only[List.mapM_cons,bW,b.2.1.sizeOf,b1,ct,j];simp only[gL,List.range_succ_eq_map,gW,p6,b.1,fD,l4,fJ];congr 2;apply iJ;intro f _;simp only[Function.comp,fD,fJ];grind
 |.nil,[],_,_,_=>rfl
 |.pr _ _,[],_,_,b=>b.elim
 |.nil,_::_,_,_,b=>b.elim
 |.int _,_,_,_,b=>by cases b
 |.bool,_,_,_,b=>by cases b
 |.str,_,_,_,b=>by cases b
 |.a8 _ _,_,_,_,b=>by cases b
 |.osl _,_,_,_,b=>by cases b
 |.ptr _ _,_,_,_,b=>by cases b
 |.optr _,_,_,_,b=>by cases b
 |.st _,_,_,_,b=>by cases b
 |.eF,_,_,_,b=>by cases b
theorem VC (ap:cK C st a.tmps w I rt fp) {i:bT (X×bM)} (c1:o.op=.build x i) (e:(zD E.tt (aV st.g) x i.toList).K Q):Yields E C st a w I rt fp o Q:=by
 unfold zD at e;split at e
 ·exact e.elim
 rename_i b O;cases p:(mO i.toList 0&&i.toList.all (λc=>b9 c.1 (gL b))) with
 |false=>rw[p] at e;exact e.elim
 |true=>
  rw[p] at e;simp only[bk,g0] at p;obtain⟨a3,F⟩:=p;simp only[bG] at e;split at e
  case h_2=>exact e.elim
  rename_i d5 av;obtain⟨q,r,j,a4,d8,bl,bs,m,d9⟩:∃q r j,E.P.info? x=some q/\q.size=b.size/\q.zero=some (.agg j)/\E.P.underlying x=some (.struct r)/\iV E.P b r.toList 0 j.toList/\j.size=b.size:=by
   unfold lL at O;split at O
   ·rename_i f1 ce;cases O;obtain⟨_,q,r,j,ay,ex,_,fl,fn,fr,fs⟩:=E.ok x _ ce;grind
   grind
  have S:=PY (λd=>ap.aV d) m av;have R:=run_places (P:=E.P) w b r.toList 0 j.toList m;simp only[mC] at R S;generalize el:((bJ (gL b)).map λk=>(fD b k,match fJ b k with|some c=>c.2.size|none=>0))=U at R;have z:∀k M l,fJ b k=Y (M,l)->k<gL b->U.toArray[k]?=Y (fD b k,l.size):=(by grind);obtain⟨L,d1,ft,d2,aS⟩:=AO (λq=>U.toArray[q]?) (i.toList.map λc=>(c.1,a.eval c.2)) j (by
   intro c A;obtain⟨h,G,rfl⟩:=eQ.1 A;have t:h.1<gL b:=gX (F h G);obtain⟨M,l,f⟩:=r0 m h.1 t;refine⟨_,_,z _ _ _ f t,S _ _ _ f h.2 ?_,by simp_all [xV]⟩;grind [I8]) (by
   rw[ou];refine(I9 a3).imp_of_mem ?_;intro c V A dl t d0 d3 eq fz ao ad;have D:c.1<gL b:=gX (F c A);have a0:V.1<gL b:=gX (F V dl);obtain⟨d4,d6,s⟩:=r0 m c.1 D;obtain⟨fT,f0,p⟩:=r0 m V.1 a0;rw[z _ _ _ s D] at ao;rw[z _ _ _ p a0] at ad;cases ao;cases ad;exact .inl (vB s p t))
  have em:L.toList.length=b.size:=(by grind);obtain⟨an,d7⟩:=PX (w:=w) (λd=>ap.aV d) (parts:=i.toList) (cells:=L.toList) (u:=b) (n:=0) (off:=0) m av aa (by
   intro J M l f;have ci:J<gL b:=IK f;simp only[mC];have ek:=xV f;refine⟨λd H=>?_,λH=>?_⟩
   ·have co:=A5 H;have T:=S J M l f d H;refine⟨T,?_⟩;apply ij;intro B;rcases cT B l.size with y|y
    ·obtain⟨N,ds⟩:∃N,(a.eval d).cells[B]?=some N:=⟨_,B7 aa⟩;have:=aS (J,a.eval d) (eQ.2 ⟨(J,d),co,bn⟩) _ _ (z _ _ _ f ci) B N ds;grind
    grind
   apply ij;intro B;rcases cT B l.size with y|y
   ·rw[sB y,sB y,p1,p1];simp only[B8];refine d2 _ ?_;intro c A d0 d3 ao;obtain⟨h,G,rfl⟩:=eQ.1 A;have cv:=Jy H h G;have D:h.1<gL b:=gX (F h G);obtain⟨d4,d6,s⟩:=r0 m h.1 D;rw[z _ _ _ s D] at ao;cases ao;rcases Nat.lt_or_gt_of_ne cv with t|bx
    ·have:=vB s f t;omega
    have:=vB f s bx;omega
   grind)
  rw[m5] at an;refine .pure (v:=.agg L) ?_ (.val (τ:=.st d5.1) (cs:=L.toList) an) e;have dg:(amO (λd=>(d.fst,a.eval d.snd)) i).toList=i.toList.map λc=>(c.1,a.eval c.2):=ac;have c2:(r.mapM λam=>do alj (am.offset,<-akT am.type):Sem (bT ej)).run E.P w=.ok U.toArray w:=(by rw[anx,Sem.run_map,R];rfl);have T:(akl x).run E.P w=.ok (.agg j) w:=(by simp[akl,akA,a4,bl]);simp only[bN,c1,Instr.build,bW,T,b7 bs,b1,c2,dg,Value.cells,d1];rfl
end
end
section
def gk {α:Type}:bm (Z×α)->Z->bv α
 |[],_=>bo
 |(a,v)::r,k=>if a=k then Y v else gk r k
def kS {α:Type}:bm (Z×α)->Z->α->bm (Z×α)
 |[],k,v=>[(k,v)]
 |(a,u)::r,k,v=>if k<a then(k,v)::(a,u)::r else if k=a then(k,v)::r else(a,u)::kS r k v
def jw {α:Type} (l:bm (Z×α)) (a:Z):bm (Z×α):=l.filter λb=>br (b.1≠a)
def mR {α:Type} (b:bv (bm (Z×α)×X)) (a:Z):bv α:=b.bind λc=>gk c.1 a
def yf {α:Type} (a:bv (bm (Z×α)×X)):Z:=match a with|some b=>(b.1.length:Z)|none=>0
section
variable {α:Type}
theorem Fq:∀{l:bm (Z×α)} {c:Z} {d:α},gk l c=Y d->(c,d)∈l
 |[],_,_,b=>by cases b
 |(a,u)::r,c,d,b=>by
  simp only[gk] at b;split at b
  ·grind
  exact gC _ (Fq b)
theorem PG:∀{l:bm (Z×α)} {c:Z},gk l c=bo->∀d,(c,d)∉l
 |[],_,_,_=>by simp
 |(a,u)::r,c,b,d=>by
  simp only[gk] at b;split at b
  ·cases b
  rename_i g;intro f;rcases fC.1 f with e|e
  ·grind
  exact PG b d e
theorem SQ {l:bm (Z×α)} (c:l.Pairwise (λa b=>a.1<b.1)):(l.map (·.1)).Nodup:=by grind
theorem Zl {l:bm (Z×α)} (c:(l.map (·.1)).Nodup) {a:Z} {b:α}:gk l a=Y b↔(a,b)∈l:=by
 constructor
 ·exact Fq
 intro d
 induction l with
 |nil=>cases d
 |cons e h g=>
  obtain⟨f,i⟩:=e;simp only[gW,jS] at c;simp only[gk];grind
theorem PH:∀{l:bm (Z×α)} {d:Z} {e:α} {c:Z×α},c∈kS l d e->c=(d,e)\/c∈l
 |[],d,e,c,b=>by grind [kS]
 |(a,u)::r,d,e,c,b=>by
  simp only[kS] at b;split at b
  ·grind
  split at b
  ·grind
  rcases fC.1 b with b|b
  ·grind
  exact(PH b).imp id (gC _)
theorem JE:∀{l:bm (Z×α)} {c:Z} {d:α},l.Pairwise (λa b=>a.1<b.1)->(kS l c d).Pairwise (λa b=>a.1<b.1)
 |[],c,d,_=>by simp[kS]
 |(a,u)::r,c,d,h=>by
  rw[m7] at h;simp only[kS];split
  ·grind [amc]
  rename_i g;split
  ·grind [amc]
  rename_i f;rw[m7];refine⟨λi e=>?_,JE h.2⟩;rcases PH e with rfl|e
  ·omega
  grind
def Zj {l:bm (Z×α)} {d:Z} (c:l.Pairwise (λa b=>a.1<b.1)):(jw l d).Pairwise (λa b=>a.1<b.1):=c.filter _
theorem JD:∀{l:bm (Z×α)} {k:Z} {v:α},l.Pairwise (λa b=>a.1<b.1)->(kS l k v).Perm ((k,v)::jw l k)
 |[],k,v,_=>by simp[kS,jw]
 |(a,u)::r,k,v,h=>by
  rw[m7] at h;simp only[kS];split
  ·rename_i d;have:jw ((a,u)::r) k=(a,u)::r:=by
    unfold jw;grind [alB]
   rw[this]
  rename_i d;split
  ·rename_i c;subst c;have:jw ((k,u)::r) k=r:=by
    unfold jw;rw[lZ,au ac,mA];grind
   rw[this]
  rename_i c;have:jw ((a,u)::r) k=(a,u)::jw r k:=(by unfold jw;grind);rw[this];exact((JD h.2).cons _).trans (.swap _ _ _)
end
section
variable {P:bY} {w:bC} {b:X} {e8:bT ch} {c:X}
theorem nY:jm w b=Y (e8,c)↔w.heap[b]?=Y (.map e8 c):=by grind [jm]
def qU (a:w.heap[b]?=Y (.map e8 c)):(setObj b (.map o i)).run P w=.ok () {w with heap:=w.heap.setIfInBounds b (.map o i)}:=by simp[setObj,Sem.run,a]
def run_getObj_map (a:w.heap[b]?=Y (.map e8 c)):(getObj b).run P w=.ok (.map e8 c) w:=by simp[getObj,Sem.run,a]
theorem On {j:cr} (b:Z):∀(e8:bm ch) (c:aj6) (d:X),e8.map (·.key)=c.map (akg .i64)->b∉c->alC (.int j) (.int .i64 b) e8 d=Y bo
 |[],_,_,_,_=>rfl
 |e::e8,[],_,a,_=>by cases a
 |e::e8,f::c,d,a,h=>by simp only[gW,h4] at a;have i:(b==f)=bp:=(by grind);simp only[alC,a.1,anz,cj,i];exact On b e8 c (d+1) a.2 (λg=>h (gC _ g))
theorem Oo {kd:cr} (b:Z):∀(e8:bm ch) (d:aj6) (f:X),e8.map (·.key)=d.map (akg .i64)->b∈d->∃c e,d[c]?=Y b/\e8[c]?=Y e/\alC (.int kd) (.int .i64 b) e8 f=Y (Y (f+c,e.val))
 |[],[],_,_,a=>by cases a
 |[],_::_,_,a,_=>by cases a
 |e::e8,[],_,a,_=>by cases a
 |e::e8,g::d,f,a,m=>by
  simp only[gW,h4] at a;by_cases h:b=g
  ·subst h;refine⟨0,e,bn,bn,?_⟩;simp_all [cj,akB,alC,anz]
  have n:(b==g)=bp:=(by grind);obtain⟨c,i,j,k,l⟩:=Oo b e8 d (f+1) a.2 ((fC.1 m).resolve_left h);refine⟨c+1,i,by simpa using j,by simpa using k,?_⟩;simp only[alC,a.1,anz,cj,n];rw[l];grind
structure hA (M:eE->X->Prop) (w:bC) (t:ah) (b:X) (l:bm (Z×t.den)) (c:X) (e8:bT ch) (L:bm (Z×X×t.den)):Prop where
 pB:kG L l c
 h:w.heap[b]?=Y (.map e8 c)
 n:e8.size=L.length
 e:∀(i:X) (q:Z×X×t.den),L[i]?=Y q->∃ds:ey,ds.length=t.size/\e8[i]?=Y (amJ (.int .i64 q.1) (c0 t ds) q.2.1)/\aU M w t ds q.2.2 []
variable {M:eE->X->Prop} {t:ah} {l:bm (Z×t.den)} {L:bm (Z×X×t.den)}
theorem hA.keys (f:hA M w t b l c e8 L):e8.toList.map (·.key)=(L.map (·.1)).map (akg .i64):=by
 apply ij;intro d;simp only[jQ,B8];rcases cT d L.length with a|a
 ·obtain⟨g,_,h,_⟩:=f.e d L[d] (bi a);grind
 rw[p2 a,Array.getElem?_eq_none (by rw[f.n];exact a)];rfl
def kG.keys {α:Type} {L:bm (Z×X×α)} {l:bm (Z×α)} {c:X} (a:kG L l c):(L.map (·.1)).Perm (l.map (·.1)):=by have:=a.2.1.map (·.1);rwa[p6] at this
def kG.nd {α:Type} {L:bm (Z×X×α)} {l:bm (Z×α)} {c:X} (a:kG L l c):(L.map (·.1)).Nodup:=a.keys.nodup_iff.2 (SQ a.1)
def kG.mem {α:Type} {L:bm (Z×X×α)} {l:bm (Z×α)} {c:X} (b:kG L l c) {a:Z×X×α} (d:a∈L):gk l a.1=Y a.2.2:=
 (Zl (SQ b.1)).2 (b.2.1.mem_iff.1 (eQ.2 ⟨a,d,bn⟩))
theorem kG.len {α:Type} {L:bm (Z×X×α)} {l:bm (Z×α)} {c:X} (a:kG L l c):L.length=l.length:=by have:=a.2.1.length_eq;grind
theorem KT {P:bY} {w:bC} (e:P.underlying a=Y (.int v)) {b:Z} {e8:bm ch} {c:bv (X×Value)} (d:alC (.int v) (.int .i64 b) e8 0=Y c):(amd a (.int .i64 b) e8).run P w=.ok c w:=by simp_all [bW,b7,b1,amd]
def oU {P:bY} {w:bC} (c:P.underlying a=Y (.int v)) (b:bA) (e:X) (d:Z):(aoB b (e+1) a (.int .i64 d)).run P w=.ok () w:=by simp[aoB,bW,b7 c]
theorem hA.find (j:hA M w t b l c e8 L) (u:P.underlying a=Y (.int v)) (d:Z):(gk l d=bo/\(∀o∈L,o.1≠d)/\∀f,(amd a (.int .i64 d) e8.toList).run P f=.ok bo f)\/∃h m i g,gk l d=Y i/\L[h]?=Y (d,m,i)/\g.length=t.size/\e8[h]?=Y ⟨.int .i64 d,c0 t g,m⟩/\aU M w t g i []/\∀f,(amd a (.int .i64 d) e8.toList).run P f=.ok (Y (h,c0 t g)) f:=by
 by_cases k:d∈L.map (·.1)
 ·obtain⟨h,q,r,s,B⟩:=Oo (kd:=v) d e8.toList _ 0 j.keys k;rw[jQ] at r;obtain⟨⟨C,m,i⟩,n,rfl⟩:=fG.1 r;obtain⟨g,x,p,y⟩:=j.e h _ n;rw[B8,p] at s;cases s;refine .inr ⟨h,m,i,g,j.pB.mem (p7 n),n,x,p,y,λf=>KT u ?_⟩;grind
 refine .inl ⟨?_,λo A q=>k (eQ.2 ⟨o,A,q⟩),λf=>KT u (On d _ _ 0 j.keys k)⟩;cases z:gk l d with
 |none=>rfl
 |some i=>exact absurd (j.pB.keys.mem_iff.2 (eQ.2 ⟨_,Fq z,bn⟩)) k
theorem hA.empty (M:eE->X->Prop) (t:ah) (a:w.heap[b]?=Y (.map #[] 0)):hA M w t b [] 0 #[] []:=
 ⟨⟨.nil,.refl _,.nil,ac⟩,a,bn,ac⟩
def vX {α:Type} (L:bm (Z×X×α)) (a:Z) (d:α) (c:X):bm (Z×X×α)×X:=
 if a∈L.map (·.1) then(L.map λb=>if b.1=a then(a,b.2.1,d) else b,c) else(L++[(a,c,d)],c+1)
theorem Rp {α:Type} {c:Z} {g:α}:∀{b:bm (Z×α)},(b.map (·.1)).Nodup->c∈b.map (·.1)->(b.map λd=>if d.1=c then(c,g) else d).Perm ((c,g)::jw b c)
 |[],_,e=>by cases e
 |(a,u)::b,e,j=>by
  simp only[gW,jS] at e;simp only[gW];by_cases h:a=c
  ·subst h;rw[aw bn];have i:(b.map λd=>if d.1=a then(a,g) else d)=b:=by
    conv=>rhs;rw[<-List.map_id b]
    refine iJ λd k=>?_;grind
   have f:jw ((a,u)::b) a=b:=(by unfold jw;rw[lZ,au ac,mA];grind);rw[i,f]
  rw[au h];have f:jw ((a,u)::b) c=(a,u)::jw b c:=(by simp_all [lZ,aw,jw]);rw[f];refine((Rp e.2 ?_).cons _).trans (.swap _ _ _);grind
theorem kG.put {α:Type} {L:bm (Z×X×α)} {l:bm (Z×α)} {c:X} (e:kG L l c) (d:Z) (g:α):kG (vX L d g c).1 (kS l d g) (bif (gk l d).isSome then c else c+1)/\(vX L d g c).2=(bif (gk l d).isSome then c else c+1):=by
 have i:(gk l d).isSome=br (d∈L.map (·.1)):=by
  by_cases h:d∈L.map (·.1)
  ·obtain⟨a,f,rfl⟩:=eQ.1 h;rw[e.mem f,akb h];rfl
  rw[akC h];cases i:gk l d with
  |none=>rfl
  |some v=>exact absurd (e.keys.mem_iff.2 (eQ.2 ⟨_,Fq i,bn⟩)) h
 rw[i];unfold vX;have n:((L.map λa=>(a.1,a.2.2)).filter λa=>br (a.1≠d)).Perm (jw l d):=e.2.1.filter _;by_cases h:d∈L.map (·.1)
 ·rw[aw h,akb h];refine⟨⟨JE e.1,?_,?_,?_⟩,bn⟩
  ·have ao:((L.map λa=>if a.1=d then(d,a.2.1,g) else a).map λa=>(a.1,a.2.2))=(L.map λa=>(a.1,a.2.2)).map λa=>if a.1=d then(d,g) else a:=by
    simp only[p6];refine iJ λa _=>?_;grind
   show((L.map λa=>if a.1=d then(d,a.2.1,g) else a).map λa=>(a.1,a.2.2)).Perm _;rw[ao];refine(Rp ?_ ?_).trans ((n.cons _).trans (JD e.1).symm)
   ·rw[p6];exact e.nd
   grind
  ·have ao:((L.map λa=>if a.1=d then(d,a.2.1,g) else a).map λa=>a.2.1)=L.map λa=>a.2.1:=by
    grind [aks,List.map_map]
   show((L.map λa=>if a.1=d then(d,a.2.1,g) else a).map λa=>a.2.1).Nodup;rw[ao];exact e.2.2.1
  intro a f;obtain⟨p,o,rfl⟩:=eQ.1 f;have:=e.2.2.2 p o;grind
 rw[au h,akC h];refine⟨⟨JE e.1,?_,?_,?_⟩,bn⟩
 ·have j:jw l d=l:=by
   unfold jw;rw[mA];intro a f;simp only[akt];rintro rfl;exact h (e.keys.mem_iff.2 (eQ.2 ⟨a,f,bn⟩))
  have:=JD (k:=d) (v:=g) e.1;rw[j] at this;refine List.Perm.trans ?_ this.symm;show((L++[(d,c,g)]).map λa=>(a.1,a.2.2)).Perm _;rw[jR];exact List.perm_append_comm.trans ((e.2.1).cons _)
 ·show((L++[(d,c,g)]).map λa=>a.2.1).Nodup;rw[jR,jt];refine⟨e.2.2.1,ac,λq m b s r=>?_⟩;obtain⟨a,f,rfl⟩:=eQ.1 m;have:=e.2.2.2 a f;grind
 intro a f;rcases hn.1 f with f|f
 ·have:=e.2.2.2 a f;grind
 grind
theorem Ok {α:Type} {h:Z}:∀{b:bm α} (a:α->Z) {f:X} {d:α},(b.map a).Nodup->b[f]?=Y d->a d=h->b.eraseIdx f=b.filter λi=>br (a i≠h)
 |[],a,f,d,_,c,_=>by grind
 |x::b,a,0,d,e,c,g=>by simp only[ri,eZ] at c;subst c;simp only[gW,jS] at e;rw[List.eraseIdx_cons_zero,lZ,au (by grind),mA.2];grind
 |x::b,a,f+1,d,e,c,g=>by simp only[wS] at c;simp only[gW,jS] at e;rw[List.eraseIdx_cons_succ,lZ,aw,Ok a e.2 c g];grind
def kG.del {α:Type} {L:bm (Z×X×α)} {l:bm (Z×α)} {c:X} (b:kG L l c) (d:Z):kG (L.filter λa=>br (a.1≠d)) (jw l d) c:=by
 refine⟨Zj b.1,?_,?_,λa e=>b.2.2.2 a (hU.1 e).1⟩
 ·have:=b.2.1.filter (λa=>br (a.1≠d));rw[anA] at this;exact this
 exact b.2.2.1.sublist (uy.map _)
def aU.P3 (a:hA M w t b l c e8 L):aU M w (.mp t) [.map (Y b)] (Y (l,c)) [b]:=⟨b,e8,L,bn,bn,a.pB,nY.2 a.h,a.n,a.e⟩
def aU.P2 (a:aU M w (.mp t) h (Y (l,c)) k):∃b e8 L,h=[.map (Y b)]/\k=[b]/\hA M w t b l c e8 L:=by obtain⟨b,e8,L,d,e,f,g,i,j⟩:=a;exact⟨b,e8,L,d,e,f,nY.1 g,i,j⟩
def aU.agu {a:eE} (d:aU M w (.fB a t) h (Y (l,c)) k):∃b e8 L,h=[.map (Y b)]/\k=[]/\M a b/\hA M w t b l c e8 L:=by obtain⟨b,e8,L,e,f,g,n,i,j,m⟩:=d;exact⟨b,e8,L,e,f,n,g,nY.1 i,j,m⟩
def gT (w:bC) (b:X) (e8:bT ch) (c:X):World:={w with heap:=w.heap.setIfInBounds b (.map e8 c)}
theorem oV (a:w.heap[b]?=Y (.map e8 c)):(gT w b o i).heap[b]?=Y (.map o i):=by grind [Array.getElem?_eq_some_iff,gT]
theorem BN {a:X} (c:i≠b):(gT w b o a).heap[i]?=w.heap[i]?:=by grind [Array.getElem?_setIfInBounds_ne,gT]
theorem SC:(gT w b o i).heap.size=w.heap.size:=by simp[gT]
theorem ae5 {es':bT ch} {c':X} (d:w.heap[b]?=Y (.map e8 c)) (a:Addr):(gT w b es' c').cell? a=w.cell? a:=by grind [aov,BN,oV,alk]
theorem ae6 {es':bT ch} {c':X} (d:w.heap[b]?=Y (.map e8 c)) (a:Addr):(gT w b es' c').frozen? a=w.frozen? a:=by grind [aow,BN,oV,amP]
def Gi {a:X} (c:i≠b):c8 w (gT w b o a) i:=.of_heap (BN c)
theorem hA.update (f:hA M w t b l c e8 L) (H:P.underlying x=Y (.map a T)) (D:P.underlying a=Y (.int v)) (d:Z) {m:t.den} (ap:N.length=t.size) (ci:aU M w t N m []):∃s J,(akV x (.map (Y b)) (.int .i64 d) (c0 t N)).run P w=.ok () (gT w b s (bif (gk l d).isSome then c else c+1))/\(∀{u:eE->X->Prop},(∀q d,M q d->u q d/\d≠b)->hA u (gT w b s (bif (gk l d).isSome then c else c+1)) t b (kS l d m) (bif (gk l d).isSome then c else c+1) s J)/\kY w (gT w b s (bif (gk l d).isSome then c else c+1)) b:=by
 have bl:∀{u:eE->X->Prop} {s:bT ch} {K:X},(∀q d,M q d->u q d/\d≠b)->∀{N:ey} {m:t.den},aU M w t N m []->aU u (gT w b s K) t N m []:=
  λy _ _ ce=>ce.mono (λq d B=>⟨(y q d B).1,Gi (y q d B).2⟩) ac
 obtain⟨p,cv⟩:=f.pB.put d m;rcases f.find (P:=P) D d with⟨C,F,G⟩|⟨A,dg,dl,co,C,F,G,ad,cs,am⟩
 ·rw[C] at p|-;have B:d∉L.map (·.1):=λc1=>(by grind);simp only[anB,bP] at p|-;have ao:(vX L d m c).1=L++[(d,c,m)]:=(by simp_all [au,vX]);rw[ao] at p;refine⟨e8.push ⟨.int .i64 d,c0 t N,c⟩,L++[(d,c,m)],?_,λy=>⟨p,oV f.h,by simp[f.n],λk g o=>?_⟩,?_⟩
  ·simp only[akV,bW,b7 H,b1,run_getObj_map f.h,oU D,G];exact qU f.h
  ·rcases cT k L.length with E|E
   ·rw[rf E] at o;obtain⟨U,Q,R,S⟩:=f.e k g o;grind
   rw[rh E] at o;have a0:k-L.length=0:=(by grind);rw[a0] at o;simp only[ri,eZ] at o;subst o;exact⟨N,ap,by rw[Array.getElem?_push,aw (by rw[f.n];omega)],bl y ci⟩
  intro V O z;rw[nY.2 f.h] at z;cases z;refine⟨_,_,nY.2 (oV f.h),Nat.le_succ _,λk r av an=>?_⟩;grind
 rw[C] at p|-;have B:d∈L.map (·.1):=eQ.2 ⟨_,p7 F,bn⟩;simp only[amQ,bG] at p|-;have ao:(vX L d m c).1=L.map λg=>if g.1=d then(d,g.2.1,m) else g:=by simp_all [aw,vX]
 rw[ao] at p;have c2:∀(k:X) (g:Z×X×t.den),L[k]?=Y g->g.1=d->k=A:=λk g o r=>(by have bs:=f.pB.nd;have a3:k<(L.map (·.1)).length:=(by grind);have:=amR a3 bs (i:=k) (j:=A);grind);refine⟨e8.modify A λr=>{r with key:=.int .i64 d,val:=c0 t N},L.map λg=>if g.1=d then(d,g.2.1,m) else g,?_,λy=>⟨p,oV f.h,by simp[f.n],λk g o=>?_⟩,?_⟩
 ·have a4:(alD (((e8[A]?).map (·.key)).getD (.int .i64 d)) (.int .i64 d)).run P w=.ok (.int .i64 d) w:=by
   rw[ad];simp[alD,anC]
  simp only[akV,bW,b7 H,b1,run_getObj_map f.h,oU D,am,a4];exact qU f.h
 ·rw[jQ] at o;obtain⟨I,bx,rfl⟩:=fG.1 o;by_cases r:I.1=d
  ·grind
  rw[au r];obtain⟨U,Q,R,S⟩:=f.e k I bx;grind
 intro V O z;rw[nY.2 f.h] at z;cases z;refine⟨_,_,nY.2 (oV f.h),bd _,λk r av an=>?_⟩;grind
theorem hA.delete (d:hA M w t b l c e8 L) (H:P.underlying x=Y (.map a T)) (u:P.underlying a=Y (.int v)) (f:Z) (av:bF) (O:bF):∃k N,(anD #[x,O] av #[.map (Y b),.int .i64 f]).run P w=.ok (.tuple #[]) (gT w b k c)/\(∀{p:eE->X->Prop},(∀g f,M g f->p g f/\f≠b)->hA p (gT w b k c) t b (jw l f) c k N)/\kY w (gT w b k c) b:=by
 have a4:∀{p:eE->X->Prop} {k:bT ch} {Q:X},(∀g f,M g f->p g f/\f≠b)->∀{C:ey} {K:t.den},aU M w t C K []->aU p (gT w b k Q) t C K []:=
  λr _ _ ap=>ap.mono (λg f J=>⟨(r g f J).1,Gi (r g f J).2⟩) ac
 rcases d.find (P:=P) u f with⟨V,s,F⟩|⟨o,bs,bx,a0,V,s,F,G,a3,ad⟩
 ·have ao:jw l f=l:=by
   unfold jw;rw[mA];intro j bl;simp only[akt];grind [PG]
  refine⟨e8,L,?_,λr=>⟨by rw[ao];exact d.pB,oV d.h,d.n,λi j m=>?_⟩,?_⟩
  ·simp only[anD,bW,b7 H,b1,run_getObj_map d.h,oU u,F,anE,ri,wS];rw[qU d.h];rfl
  ·obtain⟨D,z,A,B⟩:=d.e i j m;grind
  intro U R q;rw[nY.2 d.h] at q;cases q;exact⟨_,_,nY.2 (oV d.h),bd _,λi E I _=>⟨i,E,I,bn,bn⟩⟩
 have S:L.eraseIdx o=L.filter λj=>br (j.1≠f):=Ok (·.1) d.pB.nd s bn;refine⟨e8.eraseIdxIfInBounds o,L.eraseIdx o,?_,λr=>⟨by rw[S];exact d.pB.del f,oV d.h,?_,λi j m=>?_⟩,?_⟩
 ·simp only[anD,bW,b7 H,b1,run_getObj_map d.h,oU u,ad,anE,ri,wS];rw[qU d.h];rfl
 ·have y:o<e8.size:=(sj.1 G).1;have am:o<L.length:=(hT.1 s).1;rw[aoC,alm y,Array.size_eraseIdx,List.length_eraseIdx,aw am,d.n]
 ·have y:o<e8.size:=(sj.1 G).1;rw[List.getElem?_eraseIdx] at m;rw[aoC,alm y];split at m
  ·rename_i an;obtain⟨D,z,A,B⟩:=d.e i j m;grind
  rename_i an;obtain⟨D,z,A,B⟩:=d.e (i+1) j m;grind
 intro U R q;rw[nY.2 d.h] at q;cases q;refine⟨_,_,nY.2 (oV d.h),bd _,λi E I _=>?_⟩;grind
end
end
section
section
variable {E:fF} {C:e4} {st:aQ} {a:Act} {w:bC} {I:X->Prop} {rt:X->ey} {fp:X->aj5} {o:bR} {Q:ak->bm (X×aG)->Prop}
def lg (tt:bm (bF×ah)) (b:bF):bv ah:=match aq tt b with|some (.mp a)=>Y a|some (.fB _ a)=>Y a|_=>bo
theorem lg.ok {c:bF} {f:ah} (d:lg E.tt c=Y f):∃a b,E.P.underlying c=Y (.map a b)/\E.P.underlying a=Y (.int .i64)/\fo E.P f b:=by
 unfold lg at d;split at d
 ·rename_i k e;cases d;obtain⟨j,a,b,_,_,_,_,g,h,i⟩:=E.ok c _ e;grind
 ·rename_i l k e;cases d;obtain⟨j,a,b,_,_,_,_,g,h,i⟩:=E.ok c _ e;grind
 grind
def yj (tt:bm (bF×ah)) (d:bm (X×ah)) (e:bm (X×aG)) (a:X) (c:bF):il:=
 match lg tt c,aq d a,aq e a with
 |some f,Y (.mp b),bo=>bif bb f b then .e5 (.ref a []) [(a,⟨.mp b,Y ([],0)⟩)] else .bad
 |_,_,_=>.bad
theorem ZE (f:cK C st a.tmps w I rt fp) (k:o.op=.makeMap x bo) (c:(yj E.tt l st.h b x).K Q):Yields E C st a w I rt fp o Q:=by
 unfold yj at c;split at c
 case h_2=>exact c.elim
 rename_i m d p q g;cases e:bb m d with
 |false=>rw[e] at c;exact c.elim
 |true=>
 rw[e] at c;have i:(w.alloc (.map #[] 0)).heap[w.heap.size]?=Y (.map #[] 0):=(by show(w.heap.push _)[w.heap.size]?=_;grind);refine⟨.map (Y w.heap.size),w.alloc (.map #[] 0),I,λ_=>[.map (Y w.heap.size)],λ_=>[w.heap.size],.ref b [],[(b,⟨.mp d,Y ([],0)⟩)],?_,.alloc w _,λ_ c=>c,λ_ c=>.inl c,.one g (aU.P3 (hA.empty _ _ i)) ac (λn e=>?_),?_,c⟩
 ·simp[bN,k,Instr.makeMap,newObj,Sem.run]
 ·simp only[gp] at e;subst e;exact⟨bd _,ac,λc=>by have:=f.ib _ (.inl c);omega⟩
 have j:aq ([(b,(⟨.mp d,Y ([],0)⟩:aG))]++st.h) b=Y ⟨.mp d,Y ([],0)⟩:=(by rw[zh,di,aw bn]);refine .ref (t:=⟨.mp d,Y ([],0)⟩) (τ':=.mp d) (loc:=bo) (cs:=[.map (Y w.heap.size)]) j ?_;have:fk [(b,(⟨.mp d,Y ([],0)⟩:aG))] (λ_=>[alE (Y w.heap.size)]) rt b=[.map (Y w.heap.size)]:=(by simp[fk,di]);grind [a5.here]
def Fo (a:ah) (c:bv (bm (Z×a.den)×X)) (d:a.den) (b:Z):bA->ak
 |true=>.fj [.val a ((mR c b).getD d),.val .bool (mR c b).isSome]
 |false=>.val a ((mR c b).getD d)
def vM (tt:bm (bF×ah)) (j:bm (X×aG)) (i:bF) (k c:ak) (f:bA):il:=
 match lg tt i,c with
 |some h,.val (.int .i64) c=>match k with
  |.val (.fB l a) b=>match mw a with
   |some d=>bif bb h a then .e5 (Fo a b d c f) [] else .bad
   |none=>.bad
  |.ref id g=>match aq j id with
   |some e=>match fw e.1 g with
    |some (.mp a)=>match mw a with
     |some d=>bif bb h a then .part (bv (bm (Z×a.den)×X)) (λb=>eT e.1 e.2 g (.mp a) b) (λb=>(Fo a b d c f,[])) else .bad
     |none=>.bad
    |_=>.bad
   |none=>.bad
  |_=>.bad
 |_,_=>.bad
theorem Pz {l:bF} (s:E.P.underlying l=Y (.map x T)) (f:E.P.underlying x=Y (.int .i64)) (M:fo E.P d T) {e:bA} (Q:o.op=.lookup l c g e) {n:Z} (O:a.eval g=.int .i64 n) {v:d.den} (S:mw d=Y v) {m:bv (bm (Z×d.den)×X)} (i:(m=bo/\a.eval c=.map bo)\/∃p t q A z,m=Y (t,q)/\a.eval c=.map (Y p)/\hA (be I C.B) w d p t q A z):∃u,(bN a.eval o).run E.P w=.ok (.value u) w/\∀D:bm (X×aG),cP (be I C.B) w D rt fp (Fo d m v n e) u:=by
 obtain⟨H,y,ay,V,ad,a3⟩:=wH M S;have G:(akl T).run E.P w=.ok y w:=(by simp[akl,akA,ay,V]);have U:∃j,aU (be I C.B) w d j ((mR m n).getD v) []/\(amS l (a.eval c) (.int .i64 n) e).run E.P w=.ok (if e then .tuple #[c0 d j,.bool (mR m n).isSome] else c0 d j) w:=by
  rcases i with⟨rfl,i⟩|⟨p,t,q,A,z,rfl,i,r⟩
  ·refine⟨y.cells.toList,by grind [mR],?_⟩;rw[i];have N:(amd x (.int .i64 n) []).run E.P w=.ok bo w:=KT f bn;simp only[amS,bW,b7 s,b1,ct,oU f,N,G];rw[<-ad];cases e<;>rfl
  rw[i];rcases r.find (P:=E.P) f n with⟨b,_,K⟩|⟨a0,a4,bl,J,b,_,an,ap,av,L⟩
  ·refine⟨y.cells.toList,by grind [mR],?_⟩;simp only[amS,bW,b7 s,b1,ct,run_getObj_map r.h,oU f,K,G];grind [anB,mR]
  refine⟨J,by grind [mR],?_⟩;simp only[amS,bW,b7 s,b1,ct,run_getObj_map r.h,oU f,L];grind [amQ,mR]
 obtain⟨j,F,R⟩:=U;refine⟨_,by simp only[bN,Q,O,bW,R];rfl,λD=>?_⟩;cases e with
 |false=>exact .val F
 |true=>
  refine .fj ac (λH am u b k=>?_)
  match H with
  |0=>simp at b k;subst b;subst k;exact .val F
  |1=>simp at b k;subst b;subst k;exact .bool _
  |n+2=>grind
theorem aU.JN {b:bv (bm (Z×d.den)×X)} (f:aU e w (.mp d) h b k):(b=bo/\h=[.map bo]/\k=[])\/∃a g c j i,b=Y (g,c)/\h=[.map (Y a)]/\k=[a]/\hA e w d a g c j i:=by
 cases b with
 |none=>exact .inl ⟨bn,f.2,f.1⟩
 |some l=>
  obtain⟨g,c⟩:=l;obtain⟨a,j,i,m,n,o⟩:=f.P2;grind
theorem aU.TD {l:eE} {a:bv (bm (Z×d.den)×X)} (j:aU e w (.fB l d) h a k):(a=bo/\h=[.map bo])\/∃b f c i g,a=Y (f,c)/\h=[.map (Y b)]/\hA e w d b f c i g:=by
 cases a with
 |none=>exact .inl ⟨bn,j.2⟩
 |some m=>
  obtain⟨f,c⟩:=m;obtain⟨b,i,g,n,_,_,o⟩:=j.agu;grind
theorem Zd (s:cK C st a.tmps w I rt fp) {j:bM} {J:bA} (F:o.op=.lookup x c j J) (b:(vM E.tt st.h x (aV st.g c) (aV st.g j) J).K Q):Yields E C st a w I rt fp o Q:=by
 have f:=s.aV c;have t:=s.aV j;unfold vM at b;split at b
 case h_2=>exact b.elim
 rename_i O bx R P;obtain⟨a0,a3,L,M,N⟩:=lg.ok R;rw[P] at t;generalize D:a.eval j=bs at t;cases t with|val ad=>
 obtain⟨_,rfl⟩:=ad;split at b
 ·rename_i av B y r;split at b
  case h_2=>exact b.elim
  rename_i ap u;cases e:bb O B with
  |false=>rw[e] at b;exact b.elim
  |true=>
  rw[e] at b;rw[r] at f;generalize i:a.eval c=an at f;cases f with|val V=>
  obtain⟨am,z,A⟩:=Pz (rt:=rt) (fp:=fp) (I:=I) (C:=C) (E:=E) (w:=w) (a:=a) (m:=y) L M (N.lay e) F D u (by
   rcases V.TD with⟨ao,d⟩|⟨l,v,n,q,k,ao,d,p⟩
   ·exact .inl ⟨ao,by rw[i,d];rfl⟩
   exact .inr ⟨l,v,n,q,k,ao,by rw[i,d];rfl,p⟩)
  exact .pure z (A _) b
 ·rename_i id ce r;split at b
  case h_2=>exact b.elim
  rename_i ci G;split at b
  case h_2=>exact b.elim
  rename_i B bl;split at b
  case h_2=>exact b.elim
  rename_i ap u;cases e:bb O B with
  |false=>rw[e] at b;exact b.elim
  |true=>
  rw[e] at b;obtain⟨y,S,b⟩:=b;rw[r] at f;generalize i:a.eval c=an at f;cases f with|ref H T=>
  rw[G] at H;cases H;obtain⟨rfl,a4,U,_⟩:=s.k9 G S T;obtain⟨am,z,A⟩:=Pz (rt:=rt) (fp:=fp) (I:=I) (C:=C) (E:=E) (w:=w) (a:=a) (m:=y) L M (N.lay e) F D u (by
   rcases U.JN with⟨ao,d,_⟩|⟨l,v,n,q,k,ao,d,_,p⟩
   ·exact .inl ⟨ao,by rw[i,d];rfl⟩
   exact .inr ⟨l,v,n,q,k,ao,by rw[i,d];rfl,p⟩)
  exact .pure z (A _) b
 exact b.elim
def vR (tt:bm (bF×ah)) (f:bm (X×aG)) (e:bF) (g:ak):il:=
 match lg tt e with
 |none=>.bad
 |some _=>match g with
  |.val (.fB _ b) a=>.e5 (.val (.int .i64) (yf (α:=b.den) a)) []
  |.ref id d=>match aq f id with
   |some c=>match fw c.1 d with
    |some (.mp b)=>.part (bv (bm (Z×b.den)×X)) (λa=>eT c.1 c.2 d (.mp b) a) (λa=>(.val (.int .i64) (yf a),[]))
    |_=>.bad
   |none=>.bad
  |_=>.bad
def PZ {q:bF} (l:E.P.underlying x=Y (.map T q)) (p:o.op=.call {callee:=.builtin .len,args:=#[c],argTypes:=#[x]}) {m:bv (bm (Z×d.den)×X)} (b:(m=bo/\a.eval c=.map bo)\/∃f e g i k,m=Y (e,g)/\a.eval c=.map (Y f)/\hA (be I C.B) w d f e g i k):(bN a.eval o).run E.P w=.ok (.value (.int .i64 (yf m))) w:=by
 rcases b with⟨rfl,b⟩|⟨f,e,g,i,k,rfl,b,j⟩
 ·simp[bN,p,akM,invoke,ak7,b,ant,b7 l,goInt,yf]
 have r:i.size=e.length:=(by rw[j.n,j.pB.len]);simp only[bN,p,akM,invoke,ak7,bW,ct,b1,amT,gW,sD,b,ant,anE,ri,b7 l,run_getObj_map j.h,goInt,yf,r]
theorem ZG (s:cK C st a.tmps w I rt fp) (t:o.op=.call {callee:=.builtin .len,args:=#[c],argTypes:=#[x]}) (b:(vR E.tt st.h x (aV st.g c)).K Q):Yields E C st a w I rt fp o Q:=by
 have e:=s.aV c;unfold vR at b;split at b
 ·exact b.elim
 rename_i S z;obtain⟨J,L,y,P,R⟩:=lg.ok z;generalize f:a.eval c=T at e;split at b
 ·rename_i H G r p;rw[p] at e;cases e with|val F=>
  refine .pure (PZ (I:=I) (C:=C) (m:=r) y t ?_) (.int _ _) b;rcases F.TD with⟨ao,d⟩|⟨j,q,k,n,i,ao,d,l⟩
  ·exact .inl ⟨ao,by rw[f,d];rfl⟩
  exact .inr ⟨j,q,k,n,i,ao,by rw[f,d];rfl,l⟩
 ·rename_i id O p;split at b
  case h_2=>exact b.elim
  rename_i U u;split at b
  case h_2=>exact b.elim
  rename_i G N;obtain⟨r,A,b⟩:=b;rw[p] at e;cases e with|ref v B=>
  rw[u] at v;cases v;obtain⟨rfl,M,D,_⟩:=s.k9 u A B;refine .pure (PZ (I:=I) (C:=C) (m:=r) y t ?_) (.int _ _) b;rcases D.JN with⟨ao,d,_⟩|⟨j,q,k,n,i,ao,d,_,l⟩
  ·exact .inl ⟨ao,by rw[f,d];rfl⟩
  exact .inr ⟨j,q,k,n,i,ao,by rw[f,d];rfl,l⟩
 exact b.elim
end
end
section
section
variable {E:fF} {C:e4} {st:aQ} {a:Act} {w:bC} {I:X->Prop} {rt:X->ey} {fp:X->aj5} {o:bR} {Q:ak->bm (X×aG)->Prop}
def FT (b c d:ak):il:=
 match b with
 |.val .bool b=>.part bA (λa=>b=a) (λa=>(match a with|true=>c|false=>d,[]))
 |_=>.bad
theorem ads (f:cK C st a.tmps w I rt fp) {d e:bM} (m:o.op=.pick c d e) (b:(FT (aV st.g c) (aV st.g d) (aV st.g e)).K Q):Yields E C st a w I rt fp o Q:=by
 have h:=f.aV c;unfold FT at b;split at b
 case h_2=>exact b.elim
 rename_i i j;obtain⟨i,rfl,b⟩:=b;rw[j] at h;generalize n:a.eval c=l at h;cases h with|val k=>
 obtain⟨_,rfl⟩:=k;cases i
 ·exact .pure (v:=a.eval e) (by simp_all [bN,c0,asBool]) (f.aV e) b
 exact .pure (v:=a.eval d) (by simp_all [bN,c0,asBool]) (f.aV d) b
def Lq (e:UnOp) (c:ak):il:=
 match e,c with
 |.neg,.val (.int a) c=>.part Z (λb=>a.wrap (0-c)=b) (λb=>(.val (.int a) b,[]))
 |.xor,.val (.int a) c=>.part Z (λb=>a.wrap (cf a.bits (if a.signed then-1 else a.max)^^^cf a.bits c).toNat=b) (λb=>(.val (.int a) b,[]))
 |.not,.val .bool d=>.e5 (.val .bool (!d)) []
 |_,_=>.bad
theorem af4 (j:cK C st a.tmps w I rt fp) {i:UnOp} (p:o.op=.unOp i x c) (b:(Lq i (aV st.g c)).K Q):Yields E C st a w I rt fp o Q:=by
 have d:=j.aV c;unfold Lq at b;generalize q:a.eval c=m at d;split at b
 ·rename_i f k e;obtain⟨l,rfl,b⟩:=b;rw[e] at d;cases d with|val h=>
  obtain⟨_,rfl⟩:=h;exact .pure (v:=.int f _) (by simp_all [bN,c0,anF,Op.intArith]) (.int f _) b
 ·rename_i f k e;obtain⟨l,rfl,b⟩:=b;rw[e] at d;cases d with|val h=>
  obtain⟨_,rfl⟩:=h;exact .pure (v:=.int f _) (by simp_all [bN,c0,anF,Op.intBits]) (.int f _) b
 ·rename_i n e;rw[e] at d;cases d with|val h=>
  obtain⟨_,rfl⟩:=h;exact .pure (v:=.bool _) (by simp_all [bN,c0,anF]) (.bool _) b
 exact b.elim
def CS (tt:bm (bF×ah)) (e d:bF) (a:ak):il:=
 match aq tt e,aq tt d,a with
 |some (.int _),Y (.int c),.val (.int _) a=>.part Z (λb=>c.wrap a=b) (λb=>(.val (.int c) b,[]))
 |_,_,_=>.bad
theorem Wm (j:cK C st a.tmps w I rt fp) (m:o.op=.convert T x c) (b:(CS E.tt T x (aV st.g c)).K Q):Yields E C st a w I rt fp o Q:=by
 have d:=j.aV c;unfold CS at b;split at b
 case h_2=>exact b.elim
 rename_i p e q r h i f;obtain⟨u,rfl,b⟩:=b;generalize n:a.eval c=l at d;rw[f] at d;cases d with|val k=>
 obtain⟨_,rfl⟩:=k;obtain⟨_,_,_,_,_,s⟩:=E.ok T _ h;obtain⟨_,_,_,_,_,t⟩:=E.ok x _ i;exact .pure (v:=.int e _) (by simp_all [b7,bN,c0,convert,Conv.intToInt]) (.int e _) b
def q0 (c:ByteArray) (a:Z):ez:=if 0<=a then(c[a.toNat]?).map λb=>(b.toNat:Z) else bo
def Fj:ByteArray:=⟨#[0,1,2,2,3,3,3,3,4,4,4,4,4,4,4,4,5,5,5,5,5,5,5,5,5,5,5,5,5,5,5,5,6,6,6,6,6,6,6,6,6,6,6,6,6,6,6,6,6,6,6,6,6,6,6,6,6,6,6,6,6,6,6,6,7,7,7,7,7,7,7,7,7,7,7,7,7,7,7,7,7,7,7,7,7,7,7,7,7,7,7,7,7,7,7,7,7,7,7,7,7,7,7,7,7,7,7,7,7,7,7,7,7,7,7,7,7,7,7,7,7,7,7,7,7,7,7,7,8,8,8,8,8,8,8,8,8,8,8,8,8,8,8,8,8,8,8,8,8,8,8,8,8,8,8,8,8,8,8,8,8,8,8,8,8,8,8,8,8,8,8,8,8,8,8,8,8,8,8,8,8,8,8,8,8,8,8,8,8,8,8,8,8,8,8,8,8,8,8,8,8,8,8,8,8,8,8,8,8,8,8,8,8,8,8,8,8,8,8,8,8,8,8,8,8,8,8,8,8,8,8,8,8,8,8,8,8,8,8,8,8,8,8,8,8,8,8,8,8,8,8,8,8,8,8,8]⟩
def Gp (tt:bm (bF×ah)) (d:bF) (f e:ak):il:=
 match aq tt d,f,e with
 |some .str,.dh (.string c),.val (.int _) b=>.part Z (λa=>q0 c b=Y a) (λa=>(.val (.int .u8) a,[]))
 |some .str,.val .str c,.val (.int _) b=>.part Z (λa=>q0 c b=Y a) (λa=>(.val (.int .u8) a,[]))
 |_,_,_=>.bad
theorem afy (y:cK C st a.tmps w I rt fp) {k:bM} (H:o.op=.index x k c) (l:(Gp E.tt x (aV st.g k) (aV st.g c)).K Q):Yields E C st a w I rt fp o Q:=by
 have i:=y.aV k;have h:=y.aV c;have u:∀(f:ByteArray) (j:cr) (e b:Z),aq E.tt x=Y .str->a.eval k=.string f->a.eval c=.int j e->q0 f e=Y b->Q (.val (.int .u8) b) []->Yields E C st a w I rt fp o Q:=by
  intro f j e b m q p d n;obtain⟨_,_,_,_,_,z⟩:=E.ok x _ m;refine .pure (v:=.int .u8 b) ?_ (.int .u8 b) n;unfold q0 at d;split at d
  case isFalse=>cases d
  rename_i F;obtain⟨D,G,rfl⟩:=fG.1 d;simp_all [b7,bN,Instr.index,ali]
 unfold Gp at l;split at l
 ·rename_i f j e m q p;obtain⟨b,d,n⟩:=l;rw[q] at i;rw[p] at h;generalize s:a.eval k=A at i;generalize r:a.eval c=z at h;cases i;cases h with|val t=>
  obtain⟨_,rfl⟩:=t;exact u f j e b m s r d n
 ·rename_i f j e m q p;obtain⟨b,d,n⟩:=l;rw[q] at i;rw[p] at h;generalize s:a.eval k=A at i;generalize r:a.eval c=z at h;cases i with|val B=>
  obtain⟨_,rfl⟩:=B;cases h with|val t=>
  obtain⟨_,rfl⟩:=t;exact u f j e b m s r d n
 exact l.elim
def EM (d:ak) (c:X):il:=
 match d with
 |.fj b=>match b[c]? with
  |some a=>.e5 a []
  |none=>.bad
 |_=>.bad
theorem Xi (j:cK C st a.tmps w I rt fp) (q:o.op=.extract c b) (d:(EM (aV st.g c) b).K Q):Yields E C st a w I rt fp o Q:=by
 have f:=j.aV c;unfold EM at d;generalize r:a.eval c=n at f;split at d
 case h_2=>exact d.elim
 rename_i s i;split at d
 case h_2=>exact d.elim
 rename_i h l;rw[i] at f;cases f with|fj p k=>
 rename_i e;have m:b<e.size:=(by grind);have:e[b]?=Y e[b]:=B7 m;exact .pure (v:=e[b]) (by simp_all [bN,Instr.extract]) (k b h _ l this) d
def yk (c:bA) (a:ak):bm ak->il
 |[]=>.e5 a []
 |y::d=>match a,y with
  |.val (.int b) a,.val (.int e) y=>if b=e then(match c with|true=>yk c (.val (.int b) (if y>a then y else a)) d|false=>yk c (.val (.int b) (if y<a then y else a)) d) else .bad
  |_,_=>.bad
def Fw (j:cK C st a.tmps w I rt fp) (m:bA):∀(e:bm bM) (i:ak) (f:Value),cP (be I C.B) w st.h rt fp i f->(yk m i (e.map (aV st.g))).K Q->∃d c,((e.map a.eval).foldlM (match m with|true=>Builtin.max2|false=>Builtin.min2) f).run E.P w=.ok d w/\cP (be I C.B) w st.h rt fp c d/\Q c []
 |[],i,f,k,b=>⟨f,i,bn,k,b⟩
 |y::e,i,f,k,b=>by
  have l:=j.aV y;simp only[gW,yk] at b;generalize p:a.eval y=A at l;split at b
  case h_2=>exact b.elim
  rename_i q x v z r;split at b
  case isFalse=>exact b.elim
  rename_i s;subst s;rw[r] at l;cases k with|val t=>cases l with|val u=>
  obtain⟨_,rfl⟩:=t;obtain⟨_,rfl⟩:=u;cases m
  ·obtain⟨d,c,ay,n,o⟩:=Fw j bp e _ _ (.int q _) b;refine⟨d,c,?_,n,o⟩;simp only[gW,aoD,p,bW];exact ay
  obtain⟨d,c,ay,n,o⟩:=Fw j bq e _ _ (.int q _) b;refine⟨d,c,?_,n,o⟩;simp only[gW,aoD,p,bW];exact ay
def Jc:ak->bA
 |.val _ _|.dh _|.eA _ _=>bq
 |_=>bp
def g5 (tt:bm (bF×ah)) (i:bm (X×ah)) (d:bm (X×aG)) (b:bM->ak) (g:X) (h:Op):il:=
 match h with
 |.move a=>.e5 (b a) []
 |.assign a=>bif Jc (b a) then .e5 (b a) [] else .bad
 |.pick f a n=>FT (b f) (b a) (b n)
 |.alloc c=>xa tt i d g c
 |.box c a=>zE tt d g c (b a)
 |.build c l=>zD tt b c l.toList
 |.buildSlice c e l=>xl tt i d b g c e l.toList
 |.load c a=>vL tt d c (b a)
 |.nilCheck a=>vY d (b a)
 |.binOp h c a n _=>match b a,b n with
  |.val .bool x,.val .bool y=>match aq tt c with
   |some .bool=>Hx h (.val .bool x) (.val .bool y)
   |_=>.bad
  |.val (.int k) v,.val (.int s) e=>ma h k v s e
  |_,_=>.bad
 |.unOp h _ a=>Lq h (b a)
 |.convert z g a=>CS tt z g (b a)
 |.makeSlice c t f=>vO tt i d g c (b t) (b f)
 |.slice c a u r bo=>wu tt d c (b a) (u.map b) (r.map b)
 |.fieldAddr c a e=>vA tt d c (b a) e
 |.field c a e=>xU tt d c (b a) e
 |.indexAddr c a j=>vF tt d c (b a) (b j)
 |.index c a j=>Gp tt c (b a) (b j)
 |.extract a e=>EM (b a) e
 |.call f=>match f.callee,f.args.toList,f.argTypes.toList with
  |.builtin .len,[a],[c]=>match gZ tt c with
   |some _=>vJ tt d c (b a)
   |none=>vR tt d c (b a)
  |.builtin .max,a::m,_=>yk bq (b a) (m.map b)
  |.builtin .min,a::m,_=>yk bp (b a) (m.map b)
  |_,_,_=>.bad
 |.makeMap c bo=>yj tt i d g c
 |.lookup c a k w=>vM tt d c (b a) (b k) w
 |.makeFunc (.func p) q o=>bif q.isEmpty then .e5 (.eA p (o.toList.map b)) [] else .bad
 |_=>.bad
theorem Xa (f:cK C st a.tmps w I rt fp) (c:(g5 E.tt l st.h (aV st.g) b o.op).K Q):Yields E C st a w I rt fp o Q:=by
 unfold g5 at c;split at c
 ·rename_i d e;exact .pure (v:=a.eval d) (by simp[bN,e]) (f.aV d) c
 ·rename_i d e;cases z:Jc (aV st.g d) with
  |false=>rw[z] at c;exact c.elim
  |true=>rw[z] at c;exact .pure (v:=a.eval d) (by simp[bN,e]) (f.aV d) c
 ·grind [ads]
 ·grind [U8]
 ·grind [VF]
 ·grind [VC]
 ·grind [VJ]
 ·grind [Za]
 ·grind [ZU]
 ·rename_i am k d r an e;split at c
  ·rename_i L M s t;split at c
   ·rename_i J;refine MO f e (λ_ _ _ _=>?_) (by grind);exact(E.ok k _ J).choose_spec.2.2.2.2
   exact c.elim
  ·rename_i s t;refine MO f e (λL M _ T=>?_) (by rw[s,t];exact c);grind
  exact c.elim
 ·grind [af4]
 ·grind [Wm]
 ·grind [Zp]
 ·grind [afh]
 ·grind [Xy]
 ·grind [XA]
 ·grind [Yh]
 ·grind [afy]
 ·grind [Xi]
 ·rename_i F e;obtain⟨P,m,B⟩:=F;simp only at c;split at c
  ·rename_i d k ao R;have j:m=#[d]:=(by grind);have S:B=#[k]:=(by grind);grind [ZG,Y2]
  ·rename_i d i ao;have j:m=(d::i).toArray:=(by grind);obtain⟨q,D,ay,n,p⟩:=Fw (E:=E) f bq i _ _ (f.aV d) c;refine .pure (v:=q) ?_ n p;simp only[bN,e,akM,invoke,ak7,bW,ct,b1,j,Builtin.max_];simp_all
  ·rename_i d i ao;have j:m=(d::i).toArray:=(by grind);obtain⟨q,D,ay,n,p⟩:=Fw (E:=E) f bp i _ _ (f.aV d) c;refine .pure (v:=q) ?_ n p;simp only[bN,e,akM,invoke,ak7,bW,ct,b1,j,Builtin.min_];simp_all
  exact c.elim
 ·grind [ZE]
 ·grind [Zd]
 ·rename_i H u G e;cases A:u.isEmpty with
  |false=>rw[A] at c;exact c.elim
  |true=>
   rw[A] at c;obtain rfl:u=#[]:=(by grind);refine .pure (v:=.func (.func H) #[] (G.map a.eval)) (by simp[bN,e,Instr.makeFunc]) (.eA ac (λad d O x y=>?_)) c;rw[jQ] at x;rw[Array.getElem?_map] at y;obtain⟨r,U,rfl⟩:=fG.1 x;obtain⟨N,V,rfl⟩:=fG.1 y;obtain rfl:r=N:=(by grind);exact f.aV r
 exact c.elim
end
end
def eX (b:X) (a:aj5):bA:=a.any λc=>bH c b
theorem hk:eX b k=bq↔b∈k:=by grind [ame,akR,aoE,eX]
def ak.fx (a:aj5) (b:ak):bA:=b.ids.any λc=>eX c a
def ws:bm a6->bv (bm a6)
 |.unst::a=>(ws a).map λb=>.unst::b
 |.fst::_=>Y [.snd]
 |.snd::_=>Y [.fst]
 |_=>bo
def sc:bm a6->bm a6->bv (bm a6)
 |p,[]=>ws p
 |.idx _::p,.idx _::a=>sc p a
 |.deref::p,.deref::a=>sc p a
 |.unst::p,.unst::a=>sc p a
 |.fst::p,.fst::a=>sc p a
 |.snd::p,.snd::a=>sc p a
 |_,_=>bo
def Jf (a b:bm a6):bA:=hj a b||(sc a b).isSome
def SM:∀{p b:bm a6},ws p=Y b->hj p b=bq
 |.unst::p,b,a=>by obtain⟨d,c,rfl⟩:=fG.1 a;exact SM (p:=p) c
 |.fst::_,_,a=>by cases a;rfl
 |.snd::_,_,a=>by cases a;rfl
 |[],_,a=>by cases a
 |.idx _::_,_,a=>by cases a
 |.deref::_,_,a=>by cases a
def SL:∀{q p b:bm a6},sc p q=Y b->hj p (q++b)=bq
 |[],p,b,a=>by have c:ws p=Y b:=(by cases p<;>exact a);exact SM c
 |s::q,p,b,a=>by
  cases p with
  |nil=>cases s<;>cases a
  |cons d p=>cases s<;>cases d<;>first|(cases a;done)|exact SL (q:=q) (p:=p) a
theorem SN:∀{p e:bm a6} {τ h:ah},fw τ p=Y h->ws p=Y e->∃(o:ah) (m:X),∀(i:bC) (c:Loc) (g:ey),∃k,a5 i τ c g e o (c.map λd=>(d.1,d.2+m)) k
 |.unst::p,e,τ,h,b,a=>by
  obtain⟨q,l,rfl⟩:=fG.1 a;cases τ with
  |st n=>exact SN (p:=p) (τ:=n) b l
  |_=>cases b
 |.fst::p,e,τ,h,b,a=>by
  cases a;cases τ with
  |pr f j=>exact⟨j,f.size,λi c g=>⟨_,a5.here⟩⟩
  |_=>cases b
 |.snd::p,e,τ,h,b,a=>by
  cases a;cases τ with
  |pr f j=>
   refine⟨f,0,λi c g=>⟨g.take f.size,?_⟩⟩;have:(c.map λd=>(d.1,d.2+0))=c:=(by simp_all);rw[this];exact a5.here
  |_=>cases b
 |[],_,_,_,_,a=>by cases a
 |.idx _::_,_,_,_,_,a=>by cases a
 |.deref::_,_,_,_,_,a=>by cases a
theorem yP {n:bC}:∀{q p d:bm a6} {e f:ah} {j:Loc} {i:ey} {g:ah} {k:Loc} {h:ey},fw e p=Y f->sc p q=Y d->a5 n e j i q g k h->∃l,fw g l=Y f/\ws l=Y d
 |[],p,d,e,f,j,i,g,k,h,c,b,a=>by obtain⟨rfl,_,_⟩:=a5.gz.1 a;have o:ws p=Y d:=(by cases p<;>exact b);grind
 |s::q,p,d,e,f,j,i,g,k,h,c,b,a=>by
  cases p with
  |nil=>cases s<;>cases b
  |cons m p=>
   cases e<;>cases s<;>simp only[a5] at a<;>cases m<;>first|(cases b;done)|skip
   case osl.idx.idx=>obtain⟨_,_,_,_,_,_,_,_,_,a⟩:=a;exact yP (q:=q) (p:=p) c b a
   case optr.deref.deref=>obtain⟨_,_,_,_,_,_,a⟩:=a;exact yP (q:=q) (p:=p) c b a
   case st.unst.unst=>exact yP (q:=q) (p:=p) c b a
   case pr.fst.fst=>exact yP (q:=q) (p:=p) c b a
   case pr.snd.snd=>exact yP (q:=q) (p:=p) c b a
def a5.split {u:bC}:∀{q j:bm a6} {d k:ah} {g i:Loc} {f h:ey},a5 u d g f (q++j) k i h->∃e c b,a5 u d g f q e c b/\a5 u e c b j k i h
 |[],j,d,k,g,i,f,h,a=>⟨d,g,f,a5.here,a⟩
 |s::q,j,d,k,g,i,f,h,a=>by
  rw[kF] at a;cases d<;>cases s<;>simp only[a5] at a
  case osl.idx=>
   obtain⟨l,t,x,v,m,ao,n,o,w,a⟩:=a;obtain⟨e,c,b,p,r⟩:=a5.split (q:=q) a;exact⟨e,c,b,⟨l,t,x,v,m,ao,n,o,w,p⟩,r⟩
  case optr.deref=>
   obtain⟨l,t,m,ao,n,o,a⟩:=a;obtain⟨e,c,b,p,r⟩:=a5.split (q:=q) a;exact⟨e,c,b,⟨l,t,m,ao,n,o,p⟩,r⟩
  case st.unst=>exact a5.split (q:=q) a
  case pr.fst=>exact a5.split (q:=q) a
  case pr.snd=>exact a5.split (q:=q) a
theorem a5.upper {A:ah} {c z:bm a6} (y:fw d c=Y A) (g:sc c n=Y z) (a:a5 f d bo N n q (Y (b,i)) h) (x:∀(n:bm a6) (q:ah) (k:Loc) (h:ey),hj c n=bq->a5 f d bo N n q k h->a5 m d bo N n q k h):∃o,a5 m d bo N n q (Y (b,i)) o:=by
 obtain⟨E,r,s⟩:=yP y g a;obtain⟨H,D,e⟩:=SN r s;obtain⟨B,t⟩:=e f (Y (b,i)) h;obtain⟨G,j,l,u,v⟩:=a5.split (x _ _ _ _ (SL g) (a.append t));have ao:=u.ty;rw[a.ty] at ao;obtain rfl:=gq ao;obtain⟨C,w⟩:=e m j l;obtain⟨_,p,_⟩:=v.kN w;cases j with
 |none=>cases p
 |some F=>
  grind
def lh (c:bm (X×bm a6)):ak->bA
 |.ref id []=>c.any λa=>bH a.1 id
 |.ref id b=>c.any λa=>bH a.1 id&&hj a.2 b
 |.addr id b=>c.any λa=>bH a.1 id&&Jf a.2 b
 |.view id b _ _=>c.any λa=>bH a.1 id&&hj a.2 b
 |_=>bp
def kx (c:aj5) (b:bm (X×bm a6)):ak->bA
 |.eA _ f=>f.all λa=>!(a.fx c)||lh b a
 |.hG a=>lh b a
 |.app id h _ _ g=>(g.all λe=>!(eX e c))&&b.any λd=>bH d.1 id&&k6 d.2 h
 |a=>lh b a
def fh (b:aj5) (c:bm (X×bm a6)) (a:ak):ak:=bif a.fx b&&!(kx b c a) then .dead else a
def fK (b:aj5) (c:bm (X×bm a6)):ak->ak
 |.fj d=>.fj (d.map (fh b c))
 |a=>fh b c a
def kill (b:aj5) (d:bm (X×bm a6)) (c:bm (X×ak)):bm (X×ak):=c.map λa=>(a.1,fK b d a.2)
def del (a:aj5) (b:bm (X×aG)):bm (X×aG):=b.filter λc=>!(eX c.1 a)
theorem Ff (a:bm a6):hj [] a=bp:=by grind [hj,nW]
def x6 (b:aj5):bm (X×bm a6):=b.map λa=>(a,[])
theorem qD (c:aj5) (e:bm (X×bm a6)):∀(d:bm (X×ak)) (b:X),gt (kill c e d) b=fK c e (gt d b)
 |[],b=>by simp[kill,gt,aq,fK,fh,ak.fx,ak.ids]
 |(f,a)::d,b=>by
  show gt ((f,fK c e a)::kill c e d) b=_;rw[jk,jk];split
  ·rfl
  exact qD c e d b
theorem nl (a:aj5):∀(c:bm (X×aG)) (b:X),aq (del a c) b=if b∈a then bo else aq c b
 |[],b=>by simp[del,aq]
 |(d,t)::c,b=>by
  have f:=nl a c b;simp only[del] at f|-;rw[lZ];cases e:eX d a with
  |true=>
   have:d∈a:=hk.1 e;simp only[ir,Bool.false_eq_true,if_false];grind [di]
  |false=>
   have:d∉a:=λc=>(by grind [hk]);simp only[od,cj];grind [di]
theorem Lt (a:V.fx k=bp):∀id∈V.ids,id∉k:=λid c b=>by grind [aoE,hk,ak.fx]
structure nJ (C:e4) (st:aQ) (w w':bC) (I I':X->Prop) (rt:X->ey) (fp:X->aj5) (S:aj5) (Pc:bm (X×bm a6)) (new:bm (X×aG)) (rtn:X->ey) (fpn:X->aj5):Prop where
 size:w.heap.size<=w'.heap.size
 os:w'.os=w.os
 tape:w'.tape=w.tape
 output:w'.output=w.output
 heap:∀b,b<w.heap.size->(∀id∈S,∀t,aq st.h id=Y t->b∉fp id)->w'.heap[b]?=w.heap[b]?
 evo:∀b,b<w.heap.size->kY w w' b
 i:∀b,I b->I' b
 i2:∀b,I' b->I b\/(b<w'.heap.size/\(w.heap.size<=b\/∃id∈S,∃t,aq st.h id=Y t/\b∈fp id))
 tree:∀id t,aq new id=Y t->(id∈S\/aq st.h id=bo)/\aU (be I' C.B) w' t.1 (rtn id) t.2 (fpn id)/\(fpn id).Nodup/\∀b∈fpn id,¬I' b/\b<w'.heap.size/\(w.heap.size<=b\/∃OV∈S,∃t',aq st.h OV=Y t'/\b∈fp OV)
 dis:∀i j t u,aq new i=Y t->aq new j=Y u->i≠j->∀b∈fpn i,b∉fpn j
 keep:∀e∈Pc,∀t,aq st.h e.1=Y t->∃t',aq new e.1=Y t'/\t'.1=t.1/\rtn e.1=rt e.1/\(∃agU,fw t.1 e.2=Y agU)/\∀(q:bm a6) (TO:ah) (PE:Loc) (Nu:ey),hj e.2 q=bq->a5 w t.1 bo (rt e.1) q TO PE Nu->a5 w' t.1 bo (rt e.1) q TO PE Nu
 app:∀e∈Pc,∀t,aq st.h e.1=Y t->∀(q:bm a6) (τ:ah) (xs:bm τ.den) (loc:Loc) (uS:ey) (f1:aj5),k6 e.2 q=bq->τ.kT=bq->a5 w t.1 bo (rt e.1) q (.osl τ) loc uS->eT t.1 t.2 q (.osl τ) xs->aU (be I C.B) w (.osl τ) uS xs f1->∃t',aq new e.1=Y t'/\eT t'.1 t'.2 q (.osl τ) xs/\∀b∈f1,b∈fpn e.1/\c8 w w' b
theorem cK.eB {w':bC} {I':X->Prop} {rtn:X->ey} {fpn:X->aj5} {S:aj5} {keep:bm (X×bm a6)} {new:bm (X×aG)} (e:cK U z O f j r p) (l:nJ U z f w' j I' r p S keep new rtn fpn):cK U ⟨kill S keep z.g,new++del S z.h⟩ O w' I' (fk new rtn r) (fk new fpn p):=by
 have V:∀a0 a,be j U.B a0 a->be I' U.B a0 a/\c8 f w' a:=λa0 a b=>by
  refine⟨?_,.of_heap (l.heap a (e.ib a (nm b)) (λid _ c k fp=>e.notM k a fp a0 b))⟩;cases a0
  ·exact l.i a b
  exact b.imp (l.i a) id
 have co:∀id c,aq (new++del S z.h) id=Y c->(aq new id=Y c/\fk new rtn r id=rtn id/\fk new fpn p id=fpn id)\/(aq new id=bo/\id∉S/\aq z.h id=Y c/\fk new rtn r id=r id/\fk new fpn p id=p id):=λid c k=>by
  rw[kR,nl] at k;cases J:aq new id with
  |none=>
   rw[J] at k;simp only[Option.none_or] at k;split at k
   ·cases k
   rename_i D;exact .inr ⟨bn,D,k,by simp[fk,J],by simp[fk,J]⟩
  |some l=>grind [fk]
 have dl:∀id c,aq z.h id=Y c->id∉S->∀a∈p id,c8 f w' a:=λid c k D a b=>.of_heap (l.heap a ((e.tree id c k).2.2 a b).2.2.1 (λI av q H A=>
  e.dis id I c q k H (λd=>D (by grind)) a b A))
 have eq:∀id c,aq z.h id=Y c->id∉S->∀a∈p id,¬I' a:=λid c k D a b K=>by
  have u:=(e.tree id c k).2.2 a b;rcases l.i2 a K with K|⟨_,K|⟨I,av,q,H,A⟩⟩
  ·grind
  ·omega
  exact e.dis id I c q k H (λd=>D (by grind)) a b A
 refine{n:=e.n,i0:=λa b=>l.i a (e.i0 a b),i1:=?_,ib:=?_,tree:=?_,dis:=?_,tmp:=?_,frame:=?_,evo:=λa b=>(e.evo a b).trans (l.evo a (jh b e.size)),size:=c4 e.size l.size,os:=l.os.trans e.os,tape:=l.tape.trans e.tape,output:=l.output.trans e.output,pin:=e.pin}
 ·intro a b;rcases l.i2 a b with b|⟨_,b|⟨I,av,q,H,A⟩⟩
  ·exact e.i1 a b
  ·exact .inr (.inl (c4 e.size b))
  exact .inr ((e.tree I q H).2.2 a A).2.2.2
 ·intro a b;rcases b with b|b
  ·rcases l.i2 a b with b|⟨b,_⟩
   ·exact jh (e.ib a (.inl b)) l.size
   omega
  exact jh (e.ib a (.inr b)) l.size
 ·intro id c k;rcases co id c k with⟨s,m,w⟩|⟨ek,D,s,m,w⟩
  ·obtain⟨_,ay,y,C⟩:=l.tree id c s;rw[m,w];refine⟨ay,y,λa b=>?_⟩;obtain⟨a3,a4,ap⟩:=C a b;rcases ap with ap|⟨I,av,q,H,A⟩
   ·exact⟨a3,λel=>by have:=e.ib a (.inr el);omega,a4,.inl (c4 e.size ap)⟩
   have u:=(e.tree I q H).2.2 a A;grind
  obtain⟨ay,y,C⟩:=e.tree id c s;rw[m,w];refine⟨ay.mono V (dl id c s D),y,λa b=>?_⟩;obtain⟨a3,a4,ap,aS⟩:=C a b;exact⟨eq id c s D a b,a4,jh ap l.size,aS⟩
 ·intro o ad c M K fs d0 a b;rcases co o c K with⟨s,_,w⟩|⟨ek,D,s,_,w⟩<;>rcases co ad M fs with⟨am,_,d6⟩|⟨gi,Fe,am,_,d6⟩<;>rw[w] at b<;>rw[d6]
  ·exact l.dis o ad c M s am d0 a b
  ·intro A;rcases((l.tree o c s).2.2.2 a b).2.2 with u|⟨I,av,q,H,ci⟩
   ·have:=((e.tree ad M am).2.2 a A).2.2.1;omega
   exact e.dis ad I M q am H (λd=>Fe (by grind)) a A ci
  ·intro A;rcases((l.tree ad M am).2.2.2 a A).2.2 with u|⟨I,av,q,H,ci⟩
   ·have:=((e.tree o c s).2.2 a b).2.2.1;omega
   exact e.dis o I c q s H (λd=>D (by grind)) a b ci
  exact e.dis o ad c M s am d0 a b
 ·intro bl;show cP _ _ _ _ _ (gt (kill S keep z.g) bl) _;rw[qD];have x:=e.tmp bl;generalize gt z.g bl=v at x;generalize O.getD bl bV=P at x;suffices d9:∀(v:ak) (P:Value),cP (be j U.B) f z.h r p v P->cP (be I' U.B) w' (new++del S z.h) (fk new rtn r) (fk new fpn p) (fh S keep v) P by
   cases v with
   |fj f1=>
    cases x with|fj d1 J=>
    refine .fj (by grind) (λo T M s m=>?_);grind
   |_=>exact d9 _ _ x
  clear x;have bx:∀(v:ak) (P:Value),cP (be j U.B) f z.h r p v P->v.fx S=bp\/lh keep v=bq->cP (be I' U.B) w' (new++del S z.h) (fk new rtn r) (fk new fpn p) v P:=by
   intro v P x fT;cases d5:v.fx S with
   |false=>
    refine x.tL V (λid cs c k=>?_);have D:=Lt d5 id cs;have fz:aq new id=bo:=by
     cases J:aq new id with
     |none=>rfl
     |some c2=>
      rcases(l.tree id c2 J).1 with u|u
      ·grind
      grind
    refine⟨by simp_all [kR,nl,au],by grind [fk],by grind [fk],(e.tree id c k).1,dl id c k D⟩
   |true=>
    have L:lh keep v=bq:=fT.resolve_left (by grind);have bs:∀(id:X) (c:aG),aq z.h id=Y c->∀d∈keep,d.1=id->∃q,aq (new++del S z.h) id=Y q/\q.1=c.1/\fk new rtn r id=r id/\(∃f8,fw c.1 d.2=Y f8)/\
     ∀(u:bm a6) (d8:ah) (d7:Loc) (ce:ey),hj d.2 u=bq->a5 f c.1 bo (r id) u d8 d7 ce->a5 w' c.1 bo (r id) u d8 d7 ce:=by
     intro id c k d E cs;subst cs;obtain⟨q,ay,y,C,an,R⟩:=l.keep d E _ k;grind [kR]
    have dg:∀(id:X) (u:bm a6),(keep.any λd=>bH d.1 id&&hj d.2 u)=bq->∃d∈keep,d.1=id/\hj d.2 u=bq:=(by simp_all);cases v with
    |ref id Q=>
     cases Q with
     |nil=>
      obtain⟨d,E,m⟩:=pY.1 (show(keep.any λd=>bH d.1 id)=bq from L);have m:=fA m;cases x with|ref k F=>
      obtain⟨rfl,rfl,rfl⟩:=a5.gz.1 F;obtain⟨q,ay,y,C,_⟩:=bs id _ k d E m;rw[<-y];refine .ref (loc:=bo) ay ?_;grind [a5.here]
     |cons f6 Q=>
      obtain⟨d,E,m,w⟩:=dg id (f6::Q) L;cases x with|ref k F=>
      obtain⟨q,ay,y,C,an,R⟩:=bs id _ k d E m;have G:=R _ _ _ _ w F;rw[<-C,<-y] at G;exact .ref ay G
    |addr id Q=>
     obtain⟨d,E,m⟩:=pY.1 (show(keep.any λd=>bH d.1 id&&Jf d.2 Q)=bq from L);simp only[bk] at m;obtain⟨m,w⟩:=m;have m:=fA m;cases x with|addr k F=>
     obtain⟨q,ay,y,C,an,R⟩:=bs id _ k d E m;rcases B9.1 w with w|w
     ·have G:=R _ _ _ _ w F;rw[<-C,<-y] at G;exact .addr ay G
     obtain⟨go,N⟩:=GZ.1 w;obtain⟨_,an⟩:=an;obtain⟨ce,G⟩:=a5.upper an N F R;rw[<-C,<-y] at G;exact .addr ay G
    |view id Q gl K=>
     obtain⟨d,E,m,w⟩:=dg id Q L;cases x with|mv=>(exact .mv _ _)|view k F f2 f3 f4=>
     obtain⟨q,ay,y,C,an,R⟩:=bs id _ k d E m;have G:=R _ _ _ _ w F;rw[<-C,<-y] at G;exact .view ay G f2 f3 f4
    |_=>cases L
  intro v P x;unfold fh;cases d5:v.fx S with
  |false=>grind
  |true=>
   cases L:kx S keep v with
   |false=>simp only[od,Bool.and_self,bG];exact .dead _
   |true=>
    simp only[ir,Bool.and_false,bP];cases v with
    |eA f9 f1=>
     cases x with|eA d1 J=>
     refine .eA d1 (λo T M s m=>bx T M (J o T M s m) ?_);have:=g0.1 L T (p7 s);grind
    |hG T=>
     cases x with|hG b fl cv ex=>
     exact .hG (V _ _ b).1 (by rw[((V _ _ b).2.1 0).1];exact fl) cv (bx T _ ex (.inr L))
    |app id u f7 hi c1=>
     cases x with|app k d4 F fr s gc m f0 ge ft=>
     have N:((c1.all λo=>!(eX o S))&&keep.any λd=>bH d.1 id&&k6 d.2 u)=bq:=L;rw[bk] at N;obtain⟨cv,N⟩:=N;have cv:∀o∈c1,o∉S:=λo K d2=>(by grind [hk,alg]);obtain⟨d,E,N⟩:=pY.1 N;simp only[bk] at N;obtain⟨fn,ds⟩:=N;obtain rfl:=fA fn;obtain⟨q,ay,y,C⟩:=l.app d E _ k u f7 _ _ _ _ ds d4 F fr s;obtain⟨gs,a3,a4,ap,_,f5⟩:=l.keep d E _ k;rw[ay] at a3;obtain rfl:=gq a3;have fz:∀o∈c1,aq new o=bo:=λo K=>by
      cases J:aq new o with
      |none=>rfl
      |some c2=>
       obtain⟨_,hc,gf⟩:=f0 o K;rcases(l.tree o c2 J).1 with u|u
       ·grind
       grind
     have d2:fk new rtn r d.1=r d.1:=(by grind [fk]);have d3:=f5 u _ _ _ (Il ds) F;rw[<-a4,<-d2] at d3;refine .app (t:=q) (by grind [kR]) d4 d3 y (s.mono V (λa b=>(C a b).2)) (λa b=>by grind [fk]) (m.mono V (λa b=>?_)) (λo K=>?_) (λa b=>?_) ft
     ·grind
     ·simp_all [kR,nl,au]
     grind [fk]
    |_=>exact bx _ P x (.inr L)
 intro a b em;rw[l.heap a (jh b e.size)]
 ·exact e.frame a b em
 intro id _ c k A;have:=((e.tree id c k).2.2 a A).2.2.2;grind
section
def kE (k:eE->X->Prop) (i:bC) (a:ah) (l:bv Addr) (d:bm a.den) (g:es):Prop:=
 g.length=d.length/\(d=[]\/∃e h,l=Y ⟨e,h,bo⟩/\∀(c:X) (j:a.den) (f:aj5),d[c]?=Y j->g[c]?=Y f->∃b,b.length=a.size/\fy i e (h+c*a.size) b/\aU k i a b j f)
theorem kE.a8 {h:eE} {a:bm d.den} (c:aU e f (.a8 h d) [.slice s b i] a []):b=a.length/\kE e f d s a (bI a.length []):=by obtain⟨_,j,k,g,_,_,c⟩:=c;simp only[h4,aka,ca] at g;obtain⟨rfl,rfl,rfl⟩:=g;refine⟨bn,ac,c.imp id ?_⟩;grind
theorem kE.osl {l:bm d.den} (g:aU e f (.osl d) [.slice s i b] l k):i=l.length/\i<=b/\∃h,kE e f d s l h/\(∀j∈h.flatten,j∈k)/\(k.Nodup->h.flatten.Nodup)/\((s=bo/\b=0/\k=[])\/∃a c,s=Y ⟨a,c,bo⟩/\k=a::h.flatten/\iW f a c (c+b*d.size)):=by
 obtain⟨t,j,m,g⟩:=g;simp only[h4,aka,ca] at m;obtain⟨rfl,rfl,rfl⟩:=m;rcases g with⟨rfl,rfl,rfl,rfl⟩|⟨a,c,n,rfl,rfl,ay,p,q,r⟩
 ·exact⟨bn,bd _,[],⟨bn,.inl bn⟩,ac,ac,.inl ⟨bn,bn,bn⟩⟩
 refine⟨bn,p,n,⟨ay,.inr ⟨a,c,bn,r⟩⟩,λj o=>gC _ o,λg=>(jS.1 g).2,.inr ⟨a,c,bn,bn,q⟩⟩
theorem kE.cells {b:bm d.den} {q:es} (j:kE e f d s b q) (v:0<d.size):∃n:ey,n.length=b.length*d.size/\(∀i∈n,i.oneCell'=bq)/\(∀c,s=Y c->b≠[]->∀(k:X) i,n[k]?=Y i->f.cell? (c.add k)=Y i)/\∀(g:X) (o:d.den) (m:aj5),b[g]?=Y o->q[g]?=Y m->aU e f d ((n.drop (g*d.size)).take d.size) o m:=by
 obtain⟨D,j⟩:=j;rcases j with rfl|⟨c,l,rfl,j⟩
 ·simp_all
 have C:∀a,a<b.length*d.size->∃i,f.cell? ⟨c,l+a,bo⟩=Y i/\i.oneCell'=bq:=by
  intro a B;have t:a/d.size<b.length:=(amU v).2 B;obtain⟨h,x,p,r⟩:=j (a/d.size) b[a/d.size] (q[a/d.size]'(by omega)) ac ac
  have E:=Nat.mod_lt a v;have:h[a %d.size]?=Y (h[a %d.size]'(by omega)):=bi _
  refine⟨_,?_,r.one _ (cF (by omega:a %d.size<h.length))⟩;have:=p _ _ this;grind [amf,Nat.mul_comm]
 have A:∀a,((bJ (b.length*d.size)).map λa=>(f.cell? ⟨c,l+a,bo⟩).getD bV)[a]?=if a<b.length*d.size then f.cell? ⟨c,l+a,bo⟩ else bo:=by grind
 refine⟨(bJ (b.length*d.size)).map λa=>(f.cell? ⟨c,l+a,bo⟩).getD bV,ac,?_,?_,?_⟩
 ·grind
 ·grind [ak5]
 intro g o m w z;obtain⟨h,x,p,r⟩:=j g o m w z;have t:g<b.length:=(hT.1 w).1;have:(((bJ (b.length*d.size)).map λa=>(f.cell? ⟨c,l+a,bo⟩).getD bV).drop (g*d.size)).take d.size=h:=by
  apply ij;intro k;rcases cT k d.size with u|u
  ·rw[sB u,p1,A];have y:(g+1)*d.size<=b.length*d.size:=iY _ t;rw[l3,mB] at y;rw[aw aa];have:h[k]?=Y (h[k]'(by omega)):=bi _
   rw[this,<-uE];exact p _ _ this
  grind
 grind
section
variable {P:bY}
theorem Vj {w:bC} {ty:bF} {j:TypeInfo} (p:P.underlying x=Y (.slice a)) (A:fo P d a) (i:P.info? a=Y j) (a4:d.size<=1300) {ad yd:bv Addr} {n cap m c:X} {olds news:ey} (M:olds.length=n*d.size) (ap:∀b,ad=Y b->∀(f:X) (g:Value),olds[f]?=Y g->w.cell? (b.add f)=Y g) (av:∀b,ad=Y b->b.spot=bo) (J:n<=cap) (an:ad=bo->cap=0) (t:news.length=m*d.size) (H:∀g∈news,g.oneCell'=bq) (C:∀b,yd=Y b->0<m->∀(f:X) (g:Value),news[f]?=Y g->w.cell? (b.add f)=Y g) (bl:yd=bo->m=0) (L:∀b,ad=Y b->iW w b.block b.off (b.off+cap*d.size)) (U:n+m<=hJ):∃F o,(amg #[x,x] ty #[.slice ad n cap,.slice yd m c]).run P w=.ok F o/\((
   n+m<=cap/\F=.slice ad (n+m) cap/\((ad=bo/\o=w)\/∃b,ad=Y b/\o=w.setCells b.block (b.off+n*d.size) news))\/
   ∃(e:X) (v:ev),cap<n+m/\n+m<=e/\F=.slice (Y ⟨w.heap.size,0,bo⟩) (n+m) e/\hz w o/\o.heap[w.heap.size]?=Y (.cells v a (0,0))/\o.heap.size=w.heap.size+1/\e*d.size<=v.size/\∀(f:X) (g:Value),(olds++news)[f]?=Y g->v[f]?=Y g):=by
 obtain⟨bs,_,h,_⟩:=A.info;have G:=h.info;rw[i] at G;cases G;have a3:=A.pos;by_cases D:n+m<=cap
 ·by_cases q:m=0
  ·subst q;obtain rfl:news=[]:=re aa;have K:(aoF d.size 0 (.slice yd 0 c)).run P w=.ok #[] w:=by
    cases yd with
    |none=>rfl
    |some b=>simp[aoF,loadCells,loadCellsFrom]
   refine⟨.slice ad n cap,w,?_,.inl ⟨D,bn,?_⟩⟩
   ·cases ad with
    |none=>simp[amg,b7 p,akT,akA,i,aoG,h.size,J,K]
    |some b=>simp[amg,b7 p,akT,akA,i,aoG,h.size,J,K,storeCells]
   cases ad with
   |none=>grind
   |some b=>exact .inr ⟨b,bn,bn⟩
  cases ad with
  |none=>grind
  |some b=>
   cases yd with
   |none=>grind
   |some k=>
    obtain⟨N,O,Q⟩:=b;obtain rfl:Q=none:=av _ rfl;have V:(n+m)*d.size<=cap*d.size:=iY _ D;rw[l3] at V;have r:=run_append_room_cells (P:=P) w x ty a j p i N O n cap k m c news (by rw[h.size];exact t) (C k bn aa) H D (λf T=>(L _ rfl _ (by grind) (by rw[h.size];grind)).1) (λf T=>(L _ rfl _ (by grind) (by rw[h.size];grind)).2);rw[h.size] at r;grind
 obtain⟨l,a0,u⟩:=A.I3;have u:=u j i;have q:0<m:=aa;cases yd with
 |none=>grind
 |some k=>
  have I:(n+m)*j.bytes<=140737488355328:=(by have H:(n+m)*j.bytes<=hJ*31200:=m8 U (by have:=h.bytes;omega);grind [hJ]);have B:((n+m:X):Z)<=9223372036854775807:=(by grind [hJ]);have z:∀(E:X),let e:=grownCap w (n+m) E a
   n+m<=e/\hz w (w.drew.alloc (.cells (olds.toArray++news.toArray++amh l.cells (e-(n+m))) a))/\
   (w.drew.alloc (.cells (olds.toArray++news.toArray++amh l.cells (e-(n+m))) a)).heap[w.heap.size]?=Y (.cells (olds.toArray++news.toArray++amh l.cells (e-(n+m))) a (0,0))/\
   e*d.size<=(olds.toArray++news.toArray++amh l.cells (e-(n+m))).size/\
   ∀(f:X) (g:Value),(olds++news)[f]?=Y g->(olds.toArray++news.toArray++amh l.cells (e-(n+m)))[f]?=Y g:=by
   intro E e;have S:n+m<=e:=grownCap_ge w (n+m) E a;refine⟨S,(hz.refl w).drew.trans (hz.alloc _ _),heap_alloc_new w.drew _,?_,?_⟩
   ·simp only[Array.size_append,uC,size_zeroCells,a0,M,t,<-l3];grind
   grind
  cases ad with
  |some b=>
   have r:=run_append_grow (P:=P) w x ty a j l p i u b n cap olds (by rw[h.size];exact M) (ap b bn) k m c news (by rw[h.size];exact t) (C k bn q) aa B (growslice_fits aa I);obtain⟨y,f2,s,f4,f5⟩:=z cap;exact⟨_,_,r,.inr ⟨_,_,aa,y,bn,f2,s,ac,f4,f5⟩⟩
  |none=>
   have R:=an bn;have am:n=0:=aa;subst R;subst am;obtain rfl:olds=[]:=re aa;simp only[mC] at B I z;have r:=run_append_nil (P:=P) w x ty a j l p i u k m c news (by rw[h.size];exact t) (C k bn q) q B aa;obtain⟨y,f2,s,f4,f5⟩:=z 0;simp only[ho,Array.empty_append] at y f2 s f4 f5;refine⟨_,_,r,.inr ⟨_,_,aa,aa,by rw[mC],f2,s,ac,f4,f5⟩⟩
end
end
theorem yM (b:X):∀(g:ey) (d:X) (c:bC) (a:X),a≠b->(c.setCells b d g).heap[a]?=c.heap[a]?
 |[],_,_,_,_=>rfl
 |v::f,d,c,a,e=>by rw[amV,yM b f _ _ a e];simp only[aoH,Array.getElem?_modify];grind
theorem uc (b:X):∀(e:ey) (c:X) (a:bC),(a.setCells b c e).heap.size=a.heap.size
 |[],_,_=>rfl
 |v::d,c,a=>by rw[amV,uc b d];simp
def pL (b:X):∀(d:ey) (c:X) (a:bC),(a.setCells b c d).os=a.os/\(a.setCells b c d).tape=a.tape/\(a.setCells b c d).output=a.output
 |[],_,_=>⟨bn,bn,bn⟩
 |v::e,c,a=>by rw[amV];exact pL b e _ _
theorem KW (d:X) (e:ey) (b:X) (f:bC) (g:∀c,c<e.length->(f.cell? ⟨d,b+c,bo⟩).isSome=bq) (a:X):((f.setCells d b e).cell? ⟨d,a,bo⟩).isSome=(f.cell? ⟨d,a,bo⟩).isSome:=by
 by_cases h:b<=a/\a<b+e.length
 ·obtain⟨c,rfl⟩:∃c,a=b+c:=⟨a-b,aa⟩;grind [ami]
 grind [amW]
theorem Zq (b:bC) (c:Addr) (d:Value) (a:X):jm (b.setCell c d) a=jm b a:=by unfold jm aoH;grind
def Bc (d:X):∀(f:ey) (b:X) (c:bC) (a:X),jm (c.setCells d b f) a=jm c a
 |[],_,_,_=>rfl
 |v::e,b,c,a=>by rw[amV,Bc d e (b+1),Zq]
theorem sb {vs:ey} {o:X} {w:bC} (a:i≠b):c8 w (w.setCells b o vs) i:=.of_heap (yM b vs o w i a)
theorem Mw {P:bY} {ty:bF} {ek:TypeInfo} (c1:P.underlying x=Y (.slice a)) (ap:fo P d a) (d1:P.info? a=Y ek) (d6:d.size<=1300) {R:bv Addr} {c:X} {q I:bm d.den} {t:es} (U:aU e f (.osl d) [.slice s i b] q k) (V:kE e f d R I t) (bl:k.Nodup) (cs:∀h∈k,∀o,¬e o h) (f8:t.flatten.Nodup) (dl:∀h∈k,h∉t.flatten) (cv:∀o h,e o h->h<f.heap.size) (ds:∀h∈k,h<f.heap.size) (d9:∀h∈t.flatten,h<f.heap.size) (d3:q.length+I.length<=hJ):∃an p f2,(amg #[x,x] ty #[.slice s i b,.slice R I.length c]).run P f=.ok an p/\aU e p (.osl d) [an] (q++I) f2/\aU e p (.osl d) [.slice s i b] q k/\f2.Nodup/\(∀h∈f2,h∈k\/h∈t.flatten\/(f.heap.size<=h/\h<p.heap.size))/\f.heap.size<=p.heap.size/\p.os=f.os/\p.tape=f.tape/\p.output=f.output/\(∀h,h<f.heap.size->h∉k->p.heap[h]?=f.heap[h]?)/\(∀o h,e o h->c8 f p h)/\(∀h∈t.flatten,c8 f p h)/\(∀h,h<f.heap.size->jm p h=jm f h):=by
 obtain⟨rfl,av,z,ce,fz,fT,d8⟩:=kE.osl U;have bs:=ap.pos;obtain⟨G,am,gf,ex,gi⟩:=ce.cells bs;obtain⟨v,el,em,eq,gc⟩:=V.cells bs;have a4:=ce.1;have f5:=V.1;obtain⟨an,p,T,dg⟩:=Vj (P:=P) (w:=f) (ty:=ty) c1 ap d1 d6 (ad:=s) (yd:=R) (n:=q.length) (cap:=b) (m:=I.length) (c:=c) (olds:=G) (news:=v) am (λh K l y A=>ex h K (by grind) l y A) (λh K=>by grind) av (λM=>by grind) el em (λh K f6 l y A=>eq h K (by grind) l y A) (λM=>by rcases V.2 with rfl|⟨h,ge,E,_⟩;rfl;grind) (λh K=>by
   grind) d3
 have ft:(z++t).flatten=z.flatten++t.flatten:=ac;have f7:(z++t).flatten.Nodup:=(by grind);have S:∀(g:X) (F:d.den) (C:aj5),(q++I)[g]?=Y F->(z++t)[g]?=Y C->aU e f d (((G++v).drop (g*d.size)).take d.size) F C/\∀h∈C,h∈z.flatten\/h∈t.flatten:=by
  intro g F C j L;rcases cT g q.length with E|E
  ·rw[rf E] at j;rw[rf aa] at L;have u:(g+1)*d.size<=q.length*d.size:=iY _ E;rw[l3,mB] at u;rw[sA aa,uD (by grind)];grind [aly,al3]
  rw[rh E] at j;rw[rh aa,a4] at L;have u:q.length*d.size<=g*d.size:=iY _ E;rw[List.drop_append,rc aa,ho,am,show g*d.size-q.length*d.size=(g-q.length)*d.size by rw[Nat.sub_mul]];grind [aly,al3]
 rcases dg with⟨d5,rfl,d7⟩|⟨ci,co,f1,f0,rfl,D,d0,f3,fs,fr⟩
 ·rcases d7 with⟨rfl,rfl⟩|⟨h,rfl,rfl⟩
  ·have fp:b=0:=(by grind);obtain rfl:q=[]:=re aa;obtain rfl:I=[]:=re aa;exact⟨_,p,k,T,by grind,U,bl,λh K=>.inl K,bd _,bn,bn,bn,λ_ _ _=>rfl,λ_ _ _=>c8.refl _ _,λ_ _=>c8.refl _ _,λ_ _=>rfl⟩
  rcases d8 with⟨M,_⟩|⟨r,B,M,rfl,a0⟩
  ·cases M
  cases M;have fn:r∉z.flatten:=(jS.1 bl).1;have c2:r∉t.flatten:=dl r ac;have d4:(q.length+I.length)*d.size<=b*d.size:=iY _ d5;rw[l3] at d4;have bx:∀l,l<v.length->(f.cell? ⟨r,B+q.length*d.size+l,bo⟩).isSome=bq:=λl A=>(a0 _ aa aa).1;have J:∀o g,e o g->e o g/\c8 f (f.setCells r (B+q.length*d.size) v) g:=λo g j=>⟨j,sb (λO=>cs r ac o (O▸j))⟩;have a3:iW (f.setCells r (B+q.length*d.size) v) r B (B+b*d.size):=λl u N=>(by rw[KW r v _ f bx,anG];exact a0 l u N);have fl:∀l y,(G++v)[l]?=Y y->(f.setCells r (B+q.length*d.size) v).cell? ⟨r,B+l,bo⟩=Y y:=by
   intro l y A;rcases cT l G.length with E|E
   ·grind [ak5,amW,List.getElem?_append_left]
   rw[rh E] at A;obtain⟨H,rfl⟩:∃H,l=G.length+H:=⟨l-G.length,aa⟩;rw[sF] at A;have Q:H<v.length:=(hT.1 A).1;rw[am,<-uE,ami r v _ f bx H Q];grind
  refine⟨_,_,r::(z++t).flatten,T,?_,?_,?_,?_,by rw[uc];omega,(pL _ _ _ _).1,(pL _ _ _ _).2.1,(pL _ _ _ _).2.2,?_,λo g j=>(J o g j).2,λg j=>sb (λO=>c2 (by grind)),λg _=>Bc _ _ _ _ _⟩
  ·refine⟨Y ⟨r,B,bo⟩,b,ac,.inr ⟨r,B,z++t,bn,bn,by grind,by grind,a3,λg F C j L=>?_⟩⟩;obtain⟨u,N⟩:=S g F C j L;refine⟨_,u.len,λl y A=>?_,u.mono J (λH Q=>sb (λO=>?_))⟩
   ·have d2:(G++v)[g*d.size+l]?=Y y:=by
     grind
    grind
   grind
  ·refine⟨Y ⟨r,B,bo⟩,b,bn,.inr ⟨r,B,z,bn,bn,a4,av,a3,λg F C j L=>?_⟩⟩;have f4:g<q.length:=(hT.1 j).1;obtain⟨u,N⟩:=S g F C (by grind) (by grind);refine⟨_,u.len,λl y A=>?_,u.mono J (λH Q=>sb (λO=>?_))⟩
   ·have d2:(G++v)[g*d.size+l]?=Y y:=by
     grind
    grind
   grind
  ·grind
  ·grind
  grind [yM]
 have J:∀o g,e o g->e o g/\c8 f p g:=λo g j=>⟨j,.of_heap (D.heap g (cv o g j))⟩;have f9:∀l,p.cell? ⟨f.heap.size,l,bo⟩=co[l]?/\p.frozen? ⟨f.heap.size,l,bo⟩=bp:=λl=>(by simp[alk,amP,d0]);refine⟨_,p,f.heap.size::(z++t).flatten,T,?_,U.mono J (λg j=>.of_heap (D.heap g (ds g j))),?_,?_,D.size,D.os,D.tape,D.output,λg j _=>D.heap g j,λo g j=>(J o g j).2,λg j=>.of_heap (D.heap g (d9 g j)),λg j=>(c8.of_heap (D.heap g j)).2⟩
 ·refine⟨Y ⟨f.heap.size,0,bo⟩,ci,ac,.inr ⟨f.heap.size,0,z++t,bn,bn,by grind,by grind,λl _ N=>?_,λg F C j L=>?_⟩⟩
  ·grind
  obtain⟨u,N⟩:=S g F C j L;refine⟨_,u.len,λl y A=>?_,u.mono J (λH Q=>.of_heap (D.heap H ?_))⟩
  ·grind
  grind
 ·grind
 grind
section
def ff.get:∀{p:bm a6} {b:ah} {c j:b.den} {e:ah} {k:e.den},ff b c p e k j->∃d,eT b c p e d
 |[],b,c,_,_,_,a=>by obtain⟨rfl,_⟩:=ff.gz.1 a;exact⟨c,eT.gz.2 ⟨bn,bn⟩⟩
 |s::p,b,_,_,_,_,a=>by
  cases b<;>cases s<;>simp only[ff] at a
  case osl.idx=>obtain⟨g,f,i,a,_⟩:=a;obtain⟨d,h⟩:=ff.get (p:=p) a;exact⟨d,g,i,h⟩
  case optr.deref=>exact ff.get (p:=p) a
  case st.unst=>exact ff.get (p:=p) a
  case pr.fst=>obtain⟨f,a,_⟩:=a;exact ff.get (p:=p) a
  case pr.snd=>obtain⟨f,a,_⟩:=a;exact ff.get (p:=p) a
theorem ff.same:∀{p:bm a6} {c:ah} {b:c.den} {d:ah} {f:d.den},eT c b p d f->ff c b p d f b
 |[],c,b,_,_,a=>by grind [ff.gz,eT.gz]
 |s::p,c,b,_,_,a=>by
  cases c<;>cases s<;>simp only[eT] at a
  case osl.idx i=>
   obtain⟨e,g,a⟩:=a;refine⟨e,e,g,ff.same (p:=p) a,?_⟩;grind [List.set_getElem_self,akU]
  case optr.deref=>exact ff.same (p:=p) a
  case st.unst=>exact ff.same (p:=p) a
  case pr.fst=>exact⟨b.1,ff.same (p:=p) a,bn⟩
  case pr.snd=>exact⟨b.2,ff.same (p:=p) a,bn⟩
def Fu {a:y} {c:X->y}:fk [(b,P)] (λ_=>a) c b=a:=by simp[fk,di]
section
variable {E:fF} {C:e4} {st:aQ} {a:Act} {A:ev} {w:bC} {I:X->Prop} {rt:X->ey} {fp:X->aj5} {o:bR}
theorem ae3 {c:X} (j:h.length=c) (f:iW w i b (b+c)) (d:X):sn w (w.setCells i b h) (Y (i,b)) c d:=by
 have k:∀a,a<h.length->(w.cell? ⟨i,b+a,bo⟩).isSome=bq:=λa g=>(f _ aa aa).1;refine⟨λa g=>amW i h b w _ (λe _=>?_),λa=>anG _ _ _ _ _,λa=>?_,Bc _ _ _ _ _⟩
 ·grind
 by_cases e:d=i
 ·grind [KW]
 rw[((sb (w:=w) (o:=b) (vs:=h) e).1 a).1]
theorem cK.afx (q:cK C st A w I rt fp) {id:X} (r:aq st.h id=Y P) {E:ey} (M:a5 w P.1 bo (rt id) n d (Y (b,i)) E) {x:d.den} {s:P.1.den} (z:ff P.1 P.2 n d x s) {p:aj5} (D:aU (be I C.B) w d N x p) (fr:p.Nodup) (a3:id∉k) (eq:∀a∈p,(∃F,∃U:d.den,d.kT=bq/\aU (be I C.B) w d E U F/\a∈F)\/∃c∈k,∃f,aq st.h c=Y f/\a∈fp c):iW w b i (i+d.size)/\∃rtn fpn,cK C ⟨kill (id::k) [(id,n)] st.g,(id,⟨P.1,s⟩)::del (id::k) st.h⟩ A (w.setCells b i N) I rtn fpn/\rtn id=rt id/\a5 (w.setCells b i N) P.1 bo (rt id) n d (Y (b,i)) N:=by
 obtain⟨cs,R,ek⟩:=q.tree id P r;obtain⟨U,ci⟩:=z.get;obtain⟨f0,d5,ad,T,am,d7,an,H,d8,ap,av⟩:=AS n (loc:=bo) cs (λ_ _ j=>by cases j) R (λ_ _ j=>by cases j) (q.notM r) ci;obtain⟨_,ao,V⟩:=M.kN am;subst ao;subst V;obtain⟨_,y⟩:=an b i bn;have el:b∈T:=(by grind);have bl:b∈fp id:=H.mem_iff.2 (by grind);have Q:=H.nodup_iff.1 R;rw[jt] at Q;obtain⟨fl,O,fn⟩:=Q;have em:∀a∈p,a∈ad\/∃c∈k,∃f,aq st.h c=Y f/\a∈fp c:=λa e=>(by grind [aU.uniq]);have fs:∀c∈k,∀f,aq st.h c=Y f->∀a∈fp c,a∉fp id:=λc m f l a e J=>q.dis c id f P l r (λo=>a3 (o▸m)) a e J;have ce:∀a∈p,a∉T:=λa e J=>(by grind);have a0:∀v a,be I C.B v a->a≠b:=λv a e o=>q.notM r b bl v (o▸e);have bs:=ae3 (w:=w) D.len y;have c1:aU (be I C.B) (w.setCells b i N) d N x p:=D.mono (λv a e=>⟨e,sb (a0 v a e)⟩) (λa e=>sb (λo=>ce a e (by grind)));have ft:∀u,u<N.length->(w.cell? ⟨b,i+u,bo⟩).isSome=bq:=λu t=>(y _ aa (by have:=D.len;omega)).1;have d9:fy (w.setCells b i N) b i N:=λu d2 t=>(by grind [bX,ami,akU]);obtain⟨d6,G,c2,_,dl,_,fz,ds,dg⟩:=ap (w.setCells b i N) (be I C.B) N x p s (λ_ _ j=>j) (λa _=>bs a) c1 (λj=>by cases j) (λd3 f1 o=>by grind) z;obtain rfl:=dl bn (.inl ac);have bx:∀a∈G,a∈fp id\/∃c∈k,∃f,aq st.h c=Y f/\a∈fp c:=λa e=>(by grind);have a4:=q.eB (S:=id::k) (keep:=[(id,n)]) (new:=[(id,⟨P.1,s⟩)]) (rtn:=λ_=>rt id) (fpn:=λ_=>G) (w':=w.setCells b i N) (I':=I) ⟨?_,(pL _ _ _ _).1,(pL _ _ _ _).2.1,(pL _ _ _ _).2.2,?_,λa _=>.of_eq (Bc _ _ _ _ _),λ_ j=>j,λ_ j=>.inl j,?_,?_,?_,?_⟩
 ·exact⟨y,_,_,a4,by rw[Fu],ds⟩
 ·grind [uc]
 ·grind [yM]
 ·intro c f l;rw[di] at l;split at l
  ·rename_i o;subst o;cases l;refine⟨.inl ac,c2,?_,λa e=>?_⟩
   ·grind
   rcases bx a e with j|⟨c,m,f,l,j⟩
   ·grind [uc]
   obtain⟨ay,d1,f3,f4⟩:=(q.tree c f l).2.2 a j;grind [uc]
  cases l
 ·intro c u f d2 m t ex;rw[di] at m t;split at m
  ·split at t
   ·omega
   cases t
  cases m
 ·intro c m f l;simp only[gp] at m;subst m;rw[r] at l;obtain rfl:=gq l;refine⟨⟨P.1,s⟩,?_,bn,bn,⟨_,M.ty⟩,dg⟩;rw[di,aw bn]
 intro c m f l d0 f6 f5 fT d4 f2 K co O L cv;simp only[gp] at m;subst m;rw[r] at l;obtain rfl:=gq l;refine⟨⟨P.1,s⟩,by rw[di,aw bn],vr K z L,λa e=>?_⟩;obtain⟨ay,d1⟩:=av d0 _ _ _ _ _ K (by exact co) L O cv a e;grind [amX,sb]
theorem cK.store (p:cK C st A w I rt fp) {id:X} (v:aq st.h id=Y P) {b:X} {c:ey} (s:a5 w P.1 bo (rt id) n d (Y (b,i)) c) {o:d.den} {m:P.1.den} (u:ff P.1 P.2 n d o m) {S2:aj5} (x:aU (be I C.B) w d N o k) (t:k.Nodup) (q:id∉S2) (r:∀a∈k,(∃e,∃z:d.den,d.kT=bq/\aU (be I C.B) w d c z e/\a∈e)\/∃j∈S2,∃y,aq st.h j=Y y/\a∈fp j):iW w b i (i+d.size)/\∃l f,cK C ⟨kill (id::S2) [(id,n)] st.g,(id,⟨P.1,m⟩)::del (id::S2) st.h⟩ A (w.setCells b i N) I l f:=by obtain⟨D,l,f,E,_⟩:=p.afx v s u x t q r;grind
inductive wZ where
 |e5 (s:aQ)
 |part (α:Type) (φ:α->Prop) (f:α->aQ)
 |bad
def wZ.K (c:wZ) (Q:aQ->Prop):Prop:=
 match c with
 |.e5 d=>Q d
 |.part e f b=>∃a:e,f a/\Q (b a)
 |.bad=>b4
def e6 (E:fF) (C:e4) (o:bR) (st:aQ) (Q:aQ->Prop):Prop:=
 ∀(a:Act) (w:bC),gM C st a.tmps w->∀(next:Act->bC->Prop) (e:b5->Act->bC->Prop),(∀c b d,Q c->b.defers=a.defers->gM C c b.tmps d->next b d)->o.wp E.P a w next e
variable {Q:aQ->Prop}
def e6.eval {an:bm (X×ah)} (j:o.dst=Y b) (l:C.ok b) (i:(g5 E.tt an st.h (aV st.g) b o.op).K (λc e=>Q ⟨(b,c)::st.g,e++st.h⟩)):e6 E C o st Q:=by
 rintro a w ⟨I,rt,fp,d⟩ next r m
 exact(Xa d i).wp d j l (λc e f q n k p=>m _ f q n k p)
def r6 (b:bm (X×aG)) (c:ak):bv (X×bm a6):=
 match c with
 |.addr id a=>Y (id,a)
 |.ref id a=>match aq b id with
  |some ⟨d,_⟩=>match fw d a with
   |some (.optr _)=>Y (id,a++[.deref])
   |_=>bo
  |none=>bo
 |_=>bo
def Gn (
 tt:bm (bF×ah)) (st:aQ) (m:bF) (o v:ak):wZ:=
 match r6 st.h o with
 |none=>.bad
 |some (
  id,p)=>match aq st.h id,aq tt m with
  |some ⟨b,e⟩,Y n=>match fw b p with
   |none=>.bad
   |some c=>bif bb n c then match v with
    |.ref d i=>match aq st.h d with
     |some ⟨r,j⟩=>bif bH id d then .bad else
      .part (c.den×b.den) (λa=>eT r j i c a.1/\ff b e p c a.1 a.2) (λa=>⟨kill [id,d] [(id,p)] st.g,(id,⟨b,a.2⟩)::del [id,d] st.h⟩)
     |none=>.bad
    |.app d i f q l=>if _e:c=.osl f then
     .part (bm f.den×b.den) (λa=>d=id/\i=p/\eT b e p (.osl f) a.1/\ff b e p (.osl f) (a.1++q) a.2) (λa=>⟨kill (id::l) [(id,p)] st.g,(id,⟨b,a.2⟩)::del (id::l) st.h⟩) else .bad
    |v=>match coe c v with
     |some j=>.part b.den (λk=>ff b e p c j k) (λk=>⟨kill [id] [(id,p)] st.g,(id,⟨b,k⟩)::del [id] st.h⟩)
     |none=>.bad
   else .bad
  |_,_=>.bad
theorem adx (m:cK C st a.tmps w I rt fp) {id:X} (b:r6 st.h (aV st.g c)=Y (id,n)) (k:aq st.h id=Y P) (v:fw P.1 n=Y d):∃j q r,a.eval c=.pointer (Y ⟨j,q,bo⟩)/\a5 w P.1 bo (rt id) n d (Y (j,q)) r:=by
 have i:=m.aV c;unfold r6 at b;generalize B:a.eval c=E at i;split at b
 ·rename_i y A l;cases b;rw[l] at i;cases i with|addr f e=>
  rw[k] at f;cases f;have:=e.ty;grind
 ·rename_i y A l;split at b
  case h_2=>cases b
  rename_i G F p;split at b
  case h_2=>cases b
  rename_i D x;cases b;rw[k] at p;cases p;rw[l] at i;cases i with|ref f e=>
  rw[k] at f;cases f;have:=e.ty;rw[x] at this;cases this;obtain⟨j,z,u,rfl,s,t⟩:=pE (m.tree id _ k).1 e;have o:=e.append (a5.Ik s t);have:=o.ty;rw[v] at this;cases this;exact⟨j,z,u,bn,o⟩
 grind
theorem afw (k:aq E.tt x=Y d) (m:bb d q=bq) (t:o.op=.store x g c) (u:a.eval g=.pointer (Y ⟨i,b,bo⟩)) (r:(a.eval c).cells=h.toArray) (s:h.length=q.size) (j:∀c∈h,c.oneCell'=bq) (f:iW w i b (b+q.size)):(bN a.eval o).run E.P w=.ok .skip (w.setCells i b h):=by have p:=(E.ok x d k).lay m;have n:=run_storeCells_cells (P:=E.P) i b h 0 w (λe l=>by simpa using(f (b+e) aa aa).1) (λe l=>by simpa using(f (b+e) aa aa).2) j;simp only[l4] at n;have:(storeVar x ⟨i,b,bo⟩ (a.eval c)).run E.P w=.ok () (w.setCells i b h):=(by simp only[storeVar,r,bW,p.sizeOf,b1];grind);simp_all [bN,Instr.storeAt,alA]
theorem afv {am:bM} (c2:o.op=.store x am c) (bl:o.dst=bo) (b:(Gn E.tt st x (aV st.g am) (aV st.g c)).K Q):e6 E C o st Q:=by
 rintro a w ⟨I,rt,fp,f⟩ next ap c1
 have h:=f.aV c;unfold Gn at b;split at b
 ·exact b.elim
 rename_i id fn dl;split at b
 case h_2=>exact b.elim
 rename_i f1 f0 ad p R;split at b
 ·exact b.elim
 rename_i t d1;cases u:bb ad t with
 |false=>rw[u] at b;exact b.elim
 |true=>
 rw[u] at b;simp only[bG] at b;obtain⟨N,J,d8,d2,v⟩:=adx f dl p d1;have F:=(E.ok x ad R).lay u;have D:∀(j:ey) (L:aQ) (e:X->ey) (d:X->aj5),(a.eval c).cells=j.toArray->j.length=t.size->(∀c∈j,c.oneCell'=bq)->iW w N J (J+t.size)->cK C L a.tmps (w.setCells N J j) I e d->Q L->o.wp E.P a w next ap:=by
  intro j L e d ao A a0 a3 d0 ds;unfold ake;rw[afw R u c2 d2 ao A a0 a3];show next (a.put o.dst bV) _
  rw[bl];exact c1 _ _ _ ds bn ⟨I,e,d,d0⟩
 split at b
 ·rename_i i U B;split at b
  case h_2=>exact b.elim
  rename_i f3 fz z;cases S:bH id i with
  |true=>rw[S] at b;exact b.elim
  |false=>
   rw[S] at b;obtain⟨⟨M,an⟩,⟨ce,n⟩,b⟩:=b;have eq:id≠i:=λO=>(by simp_all);rw[B] at h;generalize H:a.eval c=d6 at h;cases h with|ref q G=>
   rw[z] at q;cases q;obtain⟨s,V,fr⟩:=f.tree i _ z;obtain⟨fl,d9,f2,fs,d4,r,_,T,_⟩:=EV U (τ':=t) (y:=M) s (loc:=bo) (λ_ _ b=>by cases b) V (λ_ _ b=>by cases b) (f.notM z) ce;obtain⟨rfl,rfl,rfl⟩:=G.kN d4;have cv:f2.Nodup:=(jt.1 (T.nodup_iff.1 V)).1;obtain⟨m,e,d,l⟩:=f.store p v n r cv (S2:=[i]) (by grind) (λav a4=>.inr ⟨i,ac,_,z,T.mem_iff.2 (by grind)⟩);exact D _ _ e d (by rw[H];exact oT F r.len r.one) r.len r.one m l b
 ·rename_i i U d7 fT d5 B;split at b
  case isFalse=>exact b.elim
  rename_i O;subst O;obtain⟨⟨ft,an⟩,⟨rfl,rfl,bs,n⟩,b⟩:=b;rw[B] at h;generalize H:a.eval c=d6 at h;cases h with|app q co G bx ek el k dg ex cs=>
  rw[p] at q;cases q;obtain rfl:=eT.uniq bs bx;obtain⟨_,ao,A⟩:=v.kN G;subst ao;subst A;have em:(ah.osl d7).kT=bq:=co;obtain⟨m,e,d,l⟩:=f.store p v n k cs (S2:=d5) (λci=>(dg _ ci).1 bn) (λav a4=>by
   grind)
  exact D _ _ e d (by rw[H];have:=oT F k.len k.one;exact this) k.len k.one m l b
 split at b
 case h_2=>exact b.elim
 rename_i M d3;obtain⟨an,n,b⟩:=b;have s:=HO F h d3;obtain⟨m,e,d,l⟩:=f.store p v n s ac (S2:=[]) ac ac;exact D _ _ e d ac s.len s.one m l b
end
end
section
theorem ET (a:bm (bm y)) (c b:X):((a.take b).drop c).flatten.Sublist a.flatten:=by have d:a.flatten=((a.take b).take c).flatten++((a.take b).drop c).flatten++(a.drop b).flatten:=(by grind [List.flatten_append,amj]);grind
section
variable {E:fF} {C:e4} {st:aQ} {a:Act} {A:ev} {w:bC} {I:X->Prop} {rt:X->ey} {fp:X->aj5} {o:bR} {Q:aQ->Prop}
def CB (c:bm (X×ah)) (st:aQ) (a:X) (i:ak):wZ:=
 match i with
 |.ref id []=>match aq st.h id with
  |some b=>.e5 ⟨(a,.ref a [])::kill [id,a] [] st.g,(a,b)::del [id,a] st.h⟩
  |none=>.bad
 |.ref id f=>bif bH id a then .bad else .e5 ⟨(a,.ref id f)::kill [a] [] st.g,del [a] st.h⟩
 |.view id [] e d=>match aq st.h id with
  |some ⟨.osl b,j⟩=>.e5 ⟨(a,.ref a [])::kill [id,a] [] st.g,(a,⟨.osl b,(j.take d).drop e⟩)::del [id,a] st.h⟩
  |_=>.bad
 |.dh (.slice bo 0 0)=>match aq c a with
  |some (.osl b)=>.e5 ⟨(a,.ref a [])::kill [a] [] st.g,(a,⟨.osl b,[]⟩)::del [a] st.h⟩
  |_=>.bad
 |_=>.bad
theorem nJ.one {w':bC} {I':X->Prop} {S:aj5} {d:X} {t:aG} {cs:ey} {f:aj5} (x:d∈S\/aq st.h d=bo) (j:w.heap.size<=w'.heap.size) (k:w'.os=w.os) (l:w'.tape=w.tape) (m:w'.output=w.output) (n:∀b,b<w.heap.size->(∀id∈S,∀t,aq st.h id=Y t->b∉fp id)->w'.heap[b]?=w.heap[b]?) (q:∀b,b<w.heap.size->jm w' b=jm w b) (o:∀b,I b->I' b) (p:∀b,I' b->I b\/(b<w'.heap.size/\(w.heap.size<=b\/∃id∈S,∃t,aq st.h id=Y t/\b∈fp id))) (A:aU (be I' C.B) w' t.1 cs t.2 f) (y:f.Nodup) (g:∀b∈f,¬I' b/\b<w'.heap.size/\(w.heap.size<=b\/∃i∈S,∃u,aq st.h i=Y u/\b∈fp i)):nJ C st w w' I I' rt fp S [] [(d,t)] (λ_=>cs) (λ_=>f):=by
 refine⟨j,k,l,m,n,λb g=>.of_eq (q b g),o,p,?_,?_,(λid r=>by grind),(λid r=>by grind)⟩
 ·intro s v e;rw[di] at e;split at e
  ·grind
  cases e
 intro s D v E a c z;rw[di] at a c;split at a
 ·split at c
  ·omega
  cases c
 cases a
theorem e6.Vo (d5:o.op=.assign c) (d1:o.dst=Y b) (ad:C.ok b) (e:(CB l st b (aV st.g c)).K Q):e6 E C o st Q:=by
 rintro a w ⟨I,rt,fp,s⟩ next U d4
 have n:=s.aV c;have an:(bN a.eval o).run E.P w=.ok (.value (a.eval c)) w:=(by simp[bN,d5]);have H:∀(T:aQ) (rtn:X->ey) (fpn:X->aj5),cK C T (a.tmps.setIfInBounds b (a.eval c)) w I rtn fpn->Q T->o.wp E.P a w next U:=by
  intro T rtn fpn x M;unfold ake;rw[an];show next (a.put o.dst (a.eval c)) w
  rw[d1];exact d4 _ _ _ M bn ⟨I,rtn,fpn,x⟩
 have z:∀(S:aj5) (i:aG) (A:ey) (p:aj5),b∈S->aU (be I C.B) w i.1 A i.2 p->p.Nodup->(∀k∈p,∃a3∈S,∃ek,aq st.h a3=Y ek/\k∈fp a3)->a.eval c=c0 i.1 A->Q ⟨(b,.ref b [])::kill S [] st.g,(b,i)::del S st.h⟩->o.wp E.P a w next U:=by
  intro S i A p d2 x D u d6 M;have v:=s.eB (nJ.one (st:=st) (C:=C) (rt:=rt) (w':=w) (I':=I) (S:=S) (d:=b) (t:=i) (cs:=A) (f:=p) (.inl d2) (bd _) rfl rfl rfl (λ_ _ _=>rfl) (λ_ _=>rfl) (λ_ e=>e) (λ_ e=>.inl e) x D (λk dl=>by
   obtain⟨F,q,el,v,ds⟩:=u k dl;obtain⟨ay,d8,a4,bl⟩:=(s.tree F el v).2.2 k ds;grind))
  refine H _ _ _ (v.put ad (av:=.ref b []) ?_) M;rw[d6];refine .ref (t:=i) (loc:=bo) (by rw[kR,di,aw bn];rfl) ?_;rw[Fu];exact a5.here
 unfold CB at e;split at e
 ·rename_i id m;split at e
  case h_2=>exact e.elim
  rename_i i y;rw[m] at n;obtain⟨R,bs,d9⟩:=s.tree id i y;refine z [id,b] i (rt id) (fp id) ac R bs (λk u=>⟨id,ac,i,y,u⟩) ?_ e;generalize ap:a.eval c=bx at n;cases n with|ref N am=>
  grind [a5.gz]
 ·rename_i id O _ m;cases u:bH id b with
  |true=>rw[u] at e;exact e.elim
  |false=>
   rw[u] at e;have f2:id≠b:=λfs=>(by simp_all);have v:=s.eB (S:=[b]) (keep:=[]) (new:=[]) (rtn:=rt) (fpn:=fp) (w':=w) (I':=I) ⟨bd _,bn,bn,bn,λ_ _ _=>rfl,λ_ _=>.refl _ _,λ_ e=>e,λ_ e=>.inl e,(λ_ _ e=>by cases e),(λ_ _ _ _ e=>by cases e),(λ_ e=>by cases e),(λ_ e=>by cases e)⟩;refine H _ _ _ (v.put ad (av:=.ref id O) ?_) e;have:=v.aV (a:=a) c;have ft:aV (kill [b] [] st.g) c=.ref id O:=by
    cases c with
    |tmp i=>
     show gt (kill [b] [] st.g) i=_;rw[qD,show gt st.g i=.ref id O from m];grind [hk,fK,fh,ak.fx,ak.ids,eX,absurd]
    |const em=>exact absurd m (by cases em<;>simp[aV])
    |global fz=>cases m
    |func p=>cases m
   grind
 ·rename_i id j q m;split at e
  case h_2=>exact e.elim
  rename_i i ce y;rw[m] at n;obtain⟨R,bs,d9⟩:=s.tree id _ y;generalize ap:a.eval c=bx at n z H an;cases n with|mv=>(exact z [id,b] ⟨.osl i,[]⟩ [.slice bo 0 0] [] ac ⟨bo,0,bn,.inl ⟨bn,bn,bn,bn⟩⟩ ac ac bn e)|view N am f3 f4 f5=>
  rename_i k G f6 r;rw[y] at N;cases N;obtain⟨ao,_,c1⟩:=a5.gz.1 am;cases ao;obtain⟨ex,fn,L,x⟩:=R;rw[c1] at L;simp only[h4,aka,ca] at L;obtain⟨rfl,rfl,rfl⟩:=L;rcases x with⟨J,_⟩|⟨fl,f7,V,J,f0,ay,d8,a4,bl⟩
  ·cases J
  cases J;have d3:((ce.take q).drop j).length=q-j:=(by grind);refine z [id,b] ⟨.osl i,(ce.take q).drop j⟩ [.slice (Y ⟨k,if r=j then G else G+j*i.size,bo⟩) (q-j) (r-j)] (k::((V.take q).drop j).flatten) ac ?_ ?_ ?_ bn e
  ·refine⟨Y ⟨k,if r=j then G else G+j*i.size,bo⟩,r-j,by rw[d3],.inr ⟨k,_,(V.take q).drop j,bn,bn,by grind,by grind,?_,?_⟩⟩
   ·intro d7 c2 dg;by_cases d0:r=j
    ·grind
    rw[au d0] at c2 dg;have:j*i.size+(r-j)*i.size=r*i.size:=(by rw[<-l3];grind);exact a4 d7 aa aa
   intro F eq p a0 D;have f1:F<q-j:=(by grind);rw[p1,sB aa] at a0 D;obtain⟨cv,ci,fr,co⟩:=bl (j+F) eq p a0 D;refine⟨cv,ci,?_,co⟩;grind
  ·grind [List.nodup_cons,ET]
  grind [ET,alx]
 ·rename_i m;split at e
  case h_2=>exact e.elim
  rename_i i fT;rw[m] at n;refine z [b] ⟨.osl i,[]⟩ [.slice bo 0 0] [] ac ⟨bo,0,bn,.inl ⟨bn,bn,bn,bn⟩⟩ ac ac ?_ e;generalize ap:a.eval c=bx at n;cases n;rfl
 exact e.elim
end
end
section
inductive l9 (σ:ah) where
 |e5 (ys:bm σ.den)
 |part (α:Type) (φ:α->Prop) (f:α->bm σ.den)
 |bad
def si (g:bm (X×aG)) (b:ah) (k:ak):l9 b:=
 match k with
 |.val (.a8 _ j) a=>if e:j=b then .e5 (e▸a) else .bad
 |.dh (.slice bo 0 0)=>.e5 []
 |.ref id c=>match aq g id with
  |some ⟨f,d⟩=>bif b.pure then .part (bm b.den) (λa=>eT f d c (.osl b) a) (λa=>a) else .bad
  |none=>.bad
 |.view id c i h=>match aq g id with
  |some ⟨f,d⟩=>bif b.pure then .part (bm b.den) (λa=>eT f d c (.osl b) a) (λa=>(a.take h).drop i) else .bad
  |none=>.bad
 |_=>.bad
def l9.to {f:ah} (g:l9 f) (c:X->Prop) (b:bm f.den->aQ):wZ:=
 match g with
 |.e5 e=>.part bt (λ_=>c e.length) (λ_=>b e)
 |.part h i d=>.part h (λa=>i a/\c (d a).length) (λa=>b (d a))
 |.bad=>.bad
def Cz (
 tt:bm (bF×ah)) (t:bm (X×ah)) (st:aQ) (a:X) (s:bF) (j k:ak):wZ:=
 match gZ tt s with
 |none=>.bad
 |some o=>match j with
  |.ref id []=>match aq st.h id with
   |some ⟨.osl b,d⟩=>bif bb o b&&b2 b.size 1300 then
    match b.pure,k with
    |false,.ref n []=>match aq st.h n with
     |some ⟨.osl v,c⟩=>if e:v=b then bif bH id n then .bad else .part bt (λ_=>d.length+c.length<=hJ) (λ_=>⟨(a,.ref a [])::kill [id,n,a] [] st.g,(a,⟨.osl b,d++(e▸c)⟩)::del [id,n,a] st.h⟩) else .bad
     |_=>.bad
    |_,k=>(si st.h b k).to (λl=>d.length+l<=hJ) (λc=>⟨(a,.ref a [])::kill [id,a] [] st.g,(a,⟨.osl b,d++c⟩)::del [id,a] st.h⟩)
    else .bad
   |_=>.bad
  |.ref id f=>match aq st.h id,aq st.h a with
   |some ⟨m,j⟩,bo=>match fw m f with
    |some (.osl b)=>bif bb o b&&b2 b.size 1300&&b.kT then
     match si st.h b k with
     |.e5 c=>.part (bm b.den) (λd=>eT m j f (.osl b) d/\d.length+c.length<=hJ) (λ_=>⟨(a,.app id f b c [a])::kill [id] [(id,f),(id,[])] st.g,(a,⟨.eF,()⟩)::(id,⟨m,j⟩)::del [id] st.h⟩)
     |.part u w p=>.part (bm b.den×u) (λi=>eT m j f (.osl b) i.1/\w i.2/\i.1.length+(p i.2).length<=hJ) (λi=>⟨(a,.app id f b (p i.2) [a])::kill [id] [(id,f),(id,[])] st.g,(a,⟨.eF,()⟩)::(id,⟨m,j⟩)::del [id] st.h⟩)
     |.bad=>.bad
     else .bad
    |_=>.bad
   |_,_=>.bad
  |.view id [] r q=>match aq st.h id with
   |some ⟨.osl b,d⟩=>bif bb o b&&b2 b.size 1300 then
    (si st.h b k).to (λl=>((d.take q).drop r).length+l<=hJ) (λc=>⟨(a,.ref a [])::kill [id,a] [] st.g,(a,⟨.osl b,(d.take q).drop r++c⟩)::del [id,a] st.h⟩)
    else .bad
   |_=>.bad
  |.dh (.slice bo 0 0)=>match aq t a with
   |some (.osl b)=>bif bb o b&&b2 b.size 1300 then
    (si st.h b k).to (λl=>l<=hJ) (λc=>⟨(a,.ref a [])::kill [a] [] st.g,(a,⟨.osl b,c⟩)::del [a] st.h⟩)
    else .bad
   |_=>.bad
  |_=>.bad
section
variable {E:fF} {C:e4} {st:aQ} {a:Act} {A:ev} {w:bC} {I:X->Prop} {rt:X->ey} {fp:X->aj5} {o:bR} {Q:aQ->Prop}
def zr (I:X->Prop) (e:X->Prop) (w:bC) (d:ah) (g:Value) (c:bm d.den):Prop:=
 ∃b f a,g=.slice b c.length f/\kE (be I e) w d b c a/\a.flatten=[]
def IH {b:es} (c:∀a∈b,a=[]):b.flatten=[]:=by
 induction b with
 |nil=>rfl
 |cons f g e=>rw[l0,c f ac,e (λa d=>c a (gC _ d))];rfl
theorem kE.pure {f:eE->X->Prop} {e:ah} {g:bv Addr} {d:bm e.den} {c:es} (i:e.pure=bq) (a:kE f w e g d c):c.flatten=[]:=by
 refine IH (λm h=>?_);obtain⟨q,a⟩:=a;obtain⟨b,n,rfl⟩:=g1.1 h;rcases a with rfl|⟨k,o,_,a⟩
 ·grind
 have p:b<d.length:=aa;obtain⟨l,_,_,j⟩:=a b d[b] c[b] ac ac;exact j.pure i
def l9.holds {c:ah} (e:l9 c) (b:bm c.den):Prop:=
 match e with
 |.e5 f=>b=f
 |.part g h d=>∃a:g,h a/\b=d a
 |.bad=>b4
def l9.Gv {f:l9 d} {g:bm d.den->aQ} (b:(f.to j g).K Q):∃a,f.holds a/\j a.length/\Q (g a):=by
 unfold l9.to at b;cases f with
 |e5 a=>obtain⟨_,c,e⟩:=b;exact⟨a,bn,c,e⟩
 |part l m k=>obtain⟨h,⟨c,e⟩,i⟩:=b;exact⟨k h,⟨h,c,bn⟩,e,i⟩
 |bad=>exact b.elim
theorem wE (x:cK C st a.tmps w I rt fp) {s:bm d.den} (b:(si st.h d (aV st.g c)).holds s):zr I C.B w d (a.eval c) s:=by
 have f:=x.aV c;unfold si at b;generalize V:a.eval c=bl at f;split at b
 ·rename_i av a4 q j;split at b
  case isFalse=>exact b.elim
  rename_i n;subst n;obtain rfl:s=q:=b;rw[j] at f;cases f with|val E=>
  have N:=E;obtain⟨_,t,m,rfl,_⟩:=N;obtain⟨_,e⟩:=kE.a8 E;exact⟨t,m,_,bn,e,ac⟩
 ·rename_i j;obtain rfl:s=[]:=b;rw[j] at f;cases f;exact⟨bo,0,[],bn,⟨bn,.inl bn⟩,bn⟩
 ·rename_i id M j;split at b
  case h_2=>exact b.elim
  rename_i P O o;cases k:d.pure with
  |false=>rw[k] at b;exact b.elim
  |true=>
   rw[k] at b;obtain⟨q,y,rfl⟩:=b;rw[j] at f;cases f with|ref p z=>
   rw[o] at p;cases p;obtain⟨rfl,u,r,_⟩:=x.k9 o y z;have L:=r;obtain⟨t,m,rfl,_⟩:=L;obtain⟨_,_,v,e,_⟩:=kE.osl r;exact⟨t,m,v,bn,e,e.pure k⟩
 ·rename_i id M i l j;split at b
  case h_2=>exact b.elim
  rename_i P O o;cases k:d.pure with
  |false=>rw[k] at b;exact b.elim
  |true=>
   rw[k] at b;obtain⟨q,y,rfl⟩:=b;rw[j] at f;cases f with|mv=>(exact⟨bo,0,[],bn,⟨bn,.inl bn⟩,bn⟩)|view p z ad am an=>
   rename_i F a3 ap m;rw[o] at p;cases p;obtain⟨n,u,r,_⟩:=x.k9 o y z;cases n;obtain⟨ao,_,v,e,_⟩:=kE.osl r;have K:((q.take l).drop i).length=l-i:=(by grind);show zr I C.B w d _ ((q.take l).drop i);refine⟨_,m-i,(v.take l).drop i,by rw[K],⟨by simp[e.1],?_⟩,?_⟩
   ·obtain⟨T,e⟩:=e;by_cases U:l=i
    ·grind
    right;rcases e with rfl|⟨Q,a0,n,e⟩
    ·grind
    cases n;refine⟨F,_,bn,λD c u f A=>?_⟩;have S:D<l-i:=(by grind);rw[p1,sB aa] at f A;obtain⟨J,G,R,H⟩:=e (i+D) c u f A;refine⟨J,G,?_,H⟩;grind
   have:=e.pure k;grind [ET]
 exact b.elim
theorem agt {c f l a:X} {m:bm d.den} (p:aU e w (.osl d) [.slice (Y ⟨c,f,bo⟩) l i] m k) (B:k.Nodup) (D:b<=a) (E:a<=l) (F:l<=i):∃h,aU e w (.osl d) [.slice (Y ⟨c,if i=b then f else f+b*d.size,bo⟩) (a-b) (i-b)] ((m.take a).drop b) h/\h.Nodup/\∀o∈h,o∈k:=by
 obtain⟨y,A,n,u⟩:=p;simp only[h4,aka,ca] at n;obtain⟨rfl,rfl,rfl⟩:=n;rcases u with⟨j,_⟩|⟨z,G,g,j,rfl,ay,H,x,I⟩
 ·cases j
 cases j;have t:((m.take a).drop b).length=a-b:=(by grind);have C:((g.take a).drop b).flatten.Sublist g.flatten:=ET _ _ _;refine⟨c::((g.take a).drop b).flatten,⟨Y ⟨c,if i=b then f else f+b*d.size,bo⟩,i-b,by rw[t],.inr ⟨c,_,(g.take a).drop b,bn,bn,by grind,aa,?_,?_⟩⟩,?_,?_⟩
 ·intro v q r;by_cases s:i=b
  ·grind
  rw[au s] at q r;have:b*d.size+(i-b)*d.size=i*d.size:=(by rw[<-l3];grind);exact x v aa aa
 ·grind
 ·grind
 grind
def Mv (b:o.op=.call {callee:=.builtin .append,args:=#[c,g],argTypes:=#[x,x]}) (d:(amg #[x,x] o.type #[a.eval c,a.eval g]).run E.P w=.ok R f):(bN a.eval o).run E.P w=.ok (.value R) f:=by simp only[bN,b,akM,invoke,ak7,bW,ct,b1,amT,gW,sD,d]
theorem e6.zw {K L:bM} (c1:o.op=.call {callee:=.builtin .append,args:=#[K,L],argTypes:=#[x,x]}) (ap:o.dst=Y b) (a4:C.ok b) (p:cK C st a.tmps w I rt fp) {next:Act->bC->Prop} {N:b5->Act->bC->Prop} (cv:∀H z m,Q H->z.defers=a.defers->gM C H z.tmps m->next z m) {J:ah} (ad:gZ E.tt x=Y J) (ce:bb J q=bq) (ds:q.size<=1300) {S:aj5} (a0:b∈S) {G A:X} {xs r:bm q.den} {f1:aj5} {v:es} {M:bv Addr} (fs:a.eval K=.slice s G A) (dl:aU (be I C.B) w (.osl q) [.slice s G A] xs f1) (bs:f1.Nodup) (ex:∀e∈f1,∃j∈S,∃k,aq st.h j=Y k/\e∈fp j) (ft:a.eval L=.slice M r.length i) (bl:kE (be I C.B) w q M r v) (bx:v.flatten.Nodup) (fl:∀e∈v.flatten,∃j∈S,∃k,aq st.h j=Y k/\e∈fp j) (a3:∀e∈f1,e∉v.flatten) (ci:xs.length+r.length<=hJ) (c2:Q ⟨(b,.ref b [])::kill S [] st.g,(b,⟨.osl q,xs++r⟩)::del S st.h⟩):o.wp E.P a w next N:=by
 obtain⟨j,ek,el,T,U⟩:=gZ.ok ad;have D:=U.lay ce;obtain⟨fz,_,d1,_⟩:=D.info;have fr:∀j k,aq st.h j=Y k->∀e∈fp j,e<w.heap.size/\∀F,¬be I C.B F e:=λj k y e l=>⟨((p.tree j k y).2.2 e l).2.2.1,p.notM y e l⟩;obtain⟨u,m,f2,f4,d3,_,aS,d4,d5,d6,d7,d8,d2,f5,_,d9⟩:=Mw (P:=E.P) (ty:=o.type) T D d1.info ds dl (c:=i) bl bs (λe l=>by grind) bx a3 (λF e co=>p.ib e (nm co)) (λe l=>by grind) (λe l=>by grind) ci;have dg:(bN a.eval o).run E.P w=.ok (.value u) m:=Mv (E:=E) c1 (by grind);have an:∀e∈f2,(∃j∈S,∃k,aq st.h j=Y k/\e∈fp j)\/(w.heap.size<=e/\e<m.heap.size):=λe l=>by
  rcases d4 e l with n|n|n
  ·grind
  ·grind
  omega
 have d0:=p.eB (nJ.one (st:=st) (C:=C) (rt:=rt) (w':=m) (I':=I) (S:=S) (d:=b) (t:=⟨.osl q,xs++r⟩) (cs:=[u]) (f:=f2) (.inl a0) d5 d6 d7 d8 (λe l em=>d2 e l (λeq=>by grind)) d9 (λ_ n=>n) (λ_ n=>.inl n) d3 aS (λe l=>by
   rcases an e l with⟨j,fn,k,y,am⟩|⟨O,R⟩
   ·obtain⟨ay,fT,f0,f3⟩:=(p.tree j k y).2.2 e am;grind
   exact⟨λV=>by have:=p.ib e (.inl V);omega,R,.inl O⟩))
 unfold ake;rw[dg];show next (a.put o.dst u) m
 rw[ap];refine cv _ _ _ c2 bn ⟨I,_,_,d0.put a4 (av:=.ref b []) ?_⟩;have:u=c0 (.osl q) [u]:=rfl;rw[this];refine .ref (t:=⟨.osl q,xs++r⟩) (loc:=bo) (by rw[kR,di,aw bn];rfl) ?_;rw[Fu];exact a5.here
end
end
section
section
variable {E:fF} {C:e4} {st:aQ} {a:Act} {A:ev} {w:bC} {I:X->Prop} {rt:X->ey} {fp:X->aj5} {o:bR} {Q:aQ->Prop}
theorem My {a0 fz:bM} (i1:o.op=.call {callee:=.builtin .append,args:=#[a0,fz],argTypes:=#[x,x]}) (ce:o.dst=Y b) (hc:C.ok b) (p:cK C st a.tmps w I rt fp) {next:Act->bC->Prop} {fT:b5->Act->bC->Prop} (i0:∀fs a3 w',Q fs->a3.defers=a.defers->gM C fs a3.tmps w'->next a3 w') {ap:ah} (gf:gZ E.tt x=Y ap) (ic:bb ap q=bq) (i8:q.size<=1300) (dg:q.kT=bq) {id:X} (hi:aV st.g a0=.ref id n) {m:d.den} (u:aq st.h id=Y ⟨d,m⟩) (gt:aq st.h b=bo) {y O:bm q.den} (cs:eT d m n (.osl q) y) {S2:aj5} (kg:∃d0 G A,a.eval fz=.slice d0 O.length G/\kE (be I C.B) w q d0 O A/\A.flatten.Nodup/\∀e∈A.flatten,∃f∈S2,∃z,aq st.h f=Y z/\e∈fp f) (bx:∀f∈S2,f≠id/\∃ap,aq st.h f=Y ap) (ii:y.length+O.length<=hJ) (ek:Q ⟨(b,.app id n q O (b::S2))::kill [id] [(id,n),(id,[])] st.g,(b,⟨.eF,()⟩)::(id,⟨d,m⟩)::del [id] st.h⟩):o.wp E.P a w next fT:=by
 obtain⟨f,os,bs,f8,f9⟩:=gZ.ok gf;have d3:=f9.lay ic;obtain⟨rg,_,l2,_⟩:=d3.info;have dl:=p.aV a0;rw[hi] at dl;generalize kd:a.eval a0=sy at dl;cases dl with|ref r c2=>
 rename_i s0 d1 f0;rw[u] at r;cases r;simp only at c2;obtain⟨mc,fl,mo⟩:=p.tree id _ u;obtain⟨ro,pl,H,ds,f4,d2,f5,R,ra,f6,f7⟩:=AS n (loc:=bo) mc (λ_ _ j=>by cases j) fl (λ_ _ j=>by cases j) (p.notM u) cs;obtain⟨f1,ao,f3⟩:=c2.kN f4;subst f1;subst ao;subst f3;have d9:=R.nodup_iff.1 fl;rw[jt] at d9;obtain⟨io,d8,is⟩:=d9;obtain⟨a4,bl,rfl,_⟩:=(show aU (be I C.B) w (.osl q) f0 y H from d2);obtain⟨d0,G,A,lc,hr,hv,co⟩:=kg;have V:∀e∈H,e∈fp id:=λe i=>R.mem_iff.2 (by grind);have c1:∀e∈fp id,e<w.heap.size/\∀M,¬be I C.B M e:=λe i=>⟨(mo e i).2.2.1,p.notM u e i⟩;have lb:∀e∈A.flatten,e<w.heap.size:=λe i=>(by obtain⟨f,l,z,ad,T⟩:=co e i;exact((p.tree f z ad).2.2 e T).2.2.1);obtain⟨ft,w',f2,mt,mz,fr,nd,ne,nn,no,nx,n7,fn,sl,_,of⟩:=Mw (P:=E.P) (ty:=o.type) f8 d3 l2.info i8 d2 (c:=G) hr io (λe i=>(c1 e (V e i)).2) hv (λe i go=>by
  obtain⟨f,l,z,ad,T⟩:=co e go;exact p.dis id f _ z u ad (bx f l).1.symm e (V e i) T)
  (λM e d7=>p.ib e (nm d7)) (λe i=>(c1 e (V e i)).1) lb ii
 have i3:(bN a.eval o).run E.P w=.ok (.value ft) w':=Mv (E:=E) i1 (by rw[kd,lc];exact mt);have el:∀e∈ds,e<w.heap.size/\e∉H:=λe i=>⟨(c1 e (R.mem_iff.2 (by grind))).1,λj=>is e j e i bn⟩;have em:∀e,(∃M,be I C.B M e)\/e∈ds->c8 w w' e:=λe i=>by
  rcases i with⟨M,d7⟩|i
  ·grind
  exact .of_heap (fn e (el e i).1 (el e i).2)
 have gi:∀e N,d1=Y (e,N)->fy w' e N [.slice a4 y.length bl]:=λe N k=>(by have i:e∈ds:=(by grind);exact(f5 e N k).1.sm (em e (.inr i)));obtain⟨pm,J,rl,_,le,_,lf,lk⟩:=f6 w' (be I C.B) [.slice a4 y.length bl] y H m (λ_ _ j=>j) (λe i=>by
  have U:c8 w w' e:=em e (by
   rcases i with j|j|⟨N,j⟩
   ·grind
   ·grind
   grind)
  exact⟨λv _=>(U.1 v).1,λv=>(U.1 v).2,λv=>by rw[(U.1 v).1],U.2⟩) fr (λ_ _=>rfl) gi (ff.same cs)
 obtain rfl:=le bn (.inr bn);have rb:J.Perm (fp id):=lf.trans R.symm;have s:b≠id:=λk=>(by grind);have d5:∀e∈f2,e∈H\/e∈A.flatten\/(w.heap.size<=e/\e<w'.heap.size):=λe i=>ne e i
 let K:=f2.filter λe=>br (w.heap.size<=e)
 have hs:∀e∈K,w.heap.size<=e/\e<w'.heap.size:=λe i=>by
  have gl:=hU.1 i;have bs:w.heap.size<=e:=(by grind);rcases d5 e gl.1 with j|j|j
  ·grind
  ·grind
  omega
 have jp:=p.eB (S:=[id]) (keep:=[(id,n),(id,[])]) (new:=[(b,⟨.eF,()⟩),(id,⟨d,m⟩)]) (rtn:=λf=>if f=b then[] else rt id) (fpn:=λf=>if f=b then K else J) (w':=w') (I':=I) ⟨nn,no,nx,n7,λe i ge=>fn e i (λj=>ge id ac _ u (V e j)),λe i=>.of_eq (of e i),λ_ j=>j,λ_ j=>.inl j,(by
   intro f F l;rw[di] at l;split at l
   ·rename_i k;subst k;cases l;refine⟨.inr gt,(by simp only[cj];exact bn),(by grind),λe i=>?_⟩;simp only[cj] at i;obtain⟨ay,an⟩:=hs e i;exact⟨λgc=>by have:=p.ib e (.inl gc);omega,an,.inl ay⟩
   ·rw[di] at l;split at l
    ·rename_i _ k;subst k;grind
    cases l),(by
   intro f v ol on l hw rd e i;have d4:∀am F,aq [(b,(⟨.eF,()⟩:aG)),(id,⟨d,m⟩)] am=Y F->am=b\/am=id:=λam F D=>by
    rw[di] at D;split at D
    ·omega
    rw[di] at D;split at D
    ·omega
    cases D
   have L:¬(id=b):=λk=>s k.symm;rcases d4 f ol l with rfl|rfl<;>rcases d4 v on hw with rfl|rfl
   ·omega
   ·grind
   ·grind
   omega),(by
   intro f l F r;have cv:f=(id,n)\/f=(id,[]):=(by grind);have bs:f.1=id:=(by grind);have r:aq st.h id=Y F:=(by grind);rw[u] at r;obtain rfl:=gq r;have L:¬(id=b):=λk=>s k.symm;refine⟨⟨d,m⟩,by rw[bs,di,au s,di,aw bn],bn,by grind,(by rcases cv with rfl|rfl;exact⟨_,c2.ty⟩;exact⟨d,by cases d<;>rfl⟩),λex _ _ _ D ek=>?_⟩;grind [Ff]),(by
   intro f l F r ex s1 sz lo oN pr ce dg d8 d6 i2;have cv:f=(id,n)\/f=(id,[]):=(by grind);rcases cv with rfl|rfl
   ·rw[u] at r;obtain rfl:=gq r;have L:¬(id=b):=λk=>s k.symm;refine⟨⟨d,m⟩,by rw[di,au s,di,aw bn],d6,λG gs=>?_⟩;obtain⟨ay,an⟩:=f7 ex _ _ _ _ _ ce (by exact dg) d6 d8 i2 G gs;grind
   grind [vq])⟩
 unfold ake;rw[i3];show next (a.put o.dst ft) w'
 rw[ce];refine i0 _ _ _ ek bn ⟨I,_,_,jp.put hc (av:=.app id n q O (b::S2)) ?_⟩;have L:¬(id=b):=λk=>s k.symm;have ll:aq ([(b,(⟨.eF,()⟩:aG)),(id,⟨d,m⟩)]++del [id] st.h) id=Y ⟨d,m⟩:=(by rw[kR,di,au s,di,aw bn];rfl);have lo:aq ([(b,(⟨.eF,()⟩:aG)),(id,⟨d,m⟩)]++del [id] st.h) b=Y ⟨.eF,()⟩:=(by rw[kR,di,aw bn];rfl);have eq:aq [(b,(⟨.eF,()⟩:aG)),(id,⟨d,m⟩)] id=Y ⟨d,m⟩:=(by rw[di,au s,di,aw bn]);have lt:aq [(b,(⟨.eF,()⟩:aG)),(id,⟨d,m⟩)] b=Y ⟨.eF,()⟩:=(by rw[di,aw bn]);have pv:fk [(b,(⟨.eF,()⟩:aG)),(id,⟨d,m⟩)] (λf=>if f=b then K else J) fp id=J:=(by simp only[fk,eq,au L]);have ps:fk [(b,(⟨.eF,()⟩:aG)),(id,⟨d,m⟩)] (λf=>if f=b then K else J) fp b=K:=(by simp only[fk,lt,cj]);have mp:fk [(b,(⟨.eF,()⟩:aG)),(id,⟨d,m⟩)] (λf=>if f=b then[] else rt id) rt id=rt id:=(by simp only[fk,eq,au L]);have ix:a5 w' d bo (rt id) n (.osl q) d1 [.slice a4 y.length bl]:=lk.1;refine .app (t:=⟨d,m⟩) ll dg (by rw[mp];exact ix) cs fr (λe i=>by grind) mz ?_ ?_ nd
 ·intro f l;rcases fC.1 l with rfl|l
  ·grind
  obtain⟨ay,or,an⟩:=bx f l;have ci:¬(b=f):=λk=>(by grind);refine⟨ay,or,?_⟩;rw[kR,di,au ci,di,au (λk=>ay k.symm),nl,au (by grind),an];rfl
 intro e i;rcases d5 e i with j|j|j
 ·grind
 ·obtain⟨f,l,z,ad,T⟩:=co e j;obtain⟨ay,_⟩:=bx f l;have ci:¬(b=f):=λk=>(by grind);have rs:aq [(b,(⟨.eF,()⟩:aG)),(id,⟨d,m⟩)] f=bo:=(by rw[di,au ci,di,au (λk=>ay k.symm)];rfl);exact .inr ⟨f,gC _ l,by grind [fk]⟩
 grind
theorem Mx {p:bM} (N:o.op=.call {callee:=.builtin .append,args:=#[c,p],argTypes:=#[x,x]}) (A:o.dst=Y b) (F:C.ok b) (y:cK C st a.tmps w I rt fp) {next:Act->bC->Prop} (M:∀j e l,Q j->e.defers=a.defers->gM C j e.tmps l->next e l) {k:ah} (z:gZ E.tt x=Y k) (J:bb k d=bq) (R:d.size<=1300) (L:d.kT=bq) {id:X} (G:aV st.g c=.ref id n) {i:q.den} (S:aq st.h id=Y ⟨q,i⟩) (D:aq st.h b=bo) {m f:bm d.den} (H:eT q i n (.osl d) m) (T:zr I C.B w d (a.eval p) f) (K:m.length+f.length<=hJ) (O:Q ⟨(b,.app id n d f [b])::kill [id] [(id,n),(id,[])] st.g,(b,⟨.eF,()⟩)::(id,⟨q,i⟩)::del [id] st.h⟩):o.wp E.P a w next t:=by obtain⟨U,r,s,u,v,V⟩:=T;exact My (S2:=[]) N A F y M z J R L G S D H ⟨U,r,s,u,v,by grind,by grind⟩ ac K O
end
end
section
section
variable {E:fF} {C:e4} {st:aQ} {o:bR} {Q:aQ->Prop}
theorem e6.app {d0:bm (X×ah)} {U:bF} {z L:bM} {s:X} (y:o.op=.call {callee:=.builtin .append,args:=#[z,L],argTypes:=#[U,U]}) (v:o.dst=Y s) (w:C.ok s) (a:(Cz E.tt d0 st s U (aV st.g z) (aV st.g L)).K Q):e6 E C o st Q:=by
 rintro A J ⟨F,R,H,c⟩ next fs x
 have q:=c.aV z;unfold Cz at a;split at a
 ·exact a.elim
 rename_i T u;split at a
 ·rename_i id t;split at a
  case h_2=>exact a.elim
  rename_i e l f;cases b:(bb T e&&b2 e.size 1300) with
  |false=>rw[b] at a;exact a.elim
  |true=>
  rw[b] at a;simp only[bk] at b;obtain⟨j,d⟩:=b;have d:=gX d;simp only[bG] at a;rw[t] at q;generalize D:A.eval z=dl at q;cases q with|ref I ap=>
  rw[f] at I;cases I;obtain⟨ao,_,G⟩:=a5.gz.1 ap;subst ao;subst G;obtain⟨O,P,ex⟩:=c.tree id _ f;obtain⟨a3,ad,fT,_⟩:=(show aU (be F C.B) J (.osl e) (R id) l (H id) from O);have c1:A.eval z=.slice a3 l.length ad:=(by rw[D];show(R id).headD bV=_;grind);have dg:aU (be F C.B) J (.osl e) [.slice a3 l.length ad] l (H id):=(by grind);split at a
  ·rename_i k f3 d1;split at a
   case h_2=>exact a.elim
   rename_i ds r N;split at a
   case isFalse=>exact a.elim
   rename_i bs;subst bs;cases bx:bH id k with
   |true=>rw[bx] at a;exact a.elim
   |false=>
   rw[bx] at a;have d5:id≠k:=λbs=>(by grind [ame]);obtain⟨_,h,a⟩:=a;have av:=c.aV L;rw[d1] at av;generalize p:A.eval L=gc at av;cases av with|ref cv d4=>
   rw[N] at cv;cases cv;obtain⟨ao,_,G⟩:=a5.gz.1 d4;subst ao;subst G;obtain⟨fl,fp,f9⟩:=c.tree k _ N;obtain⟨a4,bl,f0,_⟩:=(show aU (be F C.B) J (.osl ds) (R k) r (H k) from fl);have d6:A.eval L=.slice a4 r.length bl:=(by rw[p];show(R k).headD bV=_;grind);have fn:aU (be F C.B) J (.osl ds) [.slice a4 r.length bl] r (H k):=(by grind);obtain⟨_,_,M,n,ci,d3,_⟩:=kE.osl fn;exact e6.zw y v w c x u j d (S:=[id,k,s]) ac c1 dg P (λm b=>⟨id,ac,_,f,b⟩) d6 n (d3 fp) (λm b=>⟨k,ac,_,N,ci m b⟩) (λm b d2=>c.dis id k _ _ f N d5 m b (ci m d2)) h a
  obtain⟨r,i,h,a⟩:=l9.Gv a;obtain⟨a0,V,M,p,n,am⟩:=wE c i;exact e6.zw y v w c x u j d (S:=[id,s]) ac c1 dg P (λm b=>⟨id,ac,_,f,b⟩) p n (by grind) (by grind) (by grind) h a
 ·rename_i id f8 f4 t;split at a
  case h_2=>exact a.elim
  rename_i gi ge f ce;split at a
  case h_2=>exact a.elim
  rename_i e f5;cases b:(bb T e&&b2 e.size 1300&&e.kT) with
  |false=>rw[b] at a;exact a.elim
  |true=>
  rw[b] at a;simp only[bk] at b;obtain⟨⟨j,d⟩,cs⟩:=b;have d:=gX d;simp only[bG] at a;split at a
  ·rename_i r i;obtain⟨l,⟨an,h⟩,a⟩:=a;exact Mx y v w c x u j d cs t f ce an (wE c (by rw[i];exact bn)) h a
  ·rename_i gf gl ft i;obtain⟨⟨l,el⟩,⟨an,d7,h⟩,a⟩:=a;exact Mx y v w c x u j d cs t f ce an (wE c (by rw[i];exact⟨el,d7,bn⟩)) h a
  exact a.elim
 ·rename_i id c2 co t;split at a
  case h_2=>exact a.elim
  rename_i e l f;cases b:(bb T e&&b2 e.size 1300) with
  |false=>rw[b] at a;exact a.elim
  |true=>
  rw[b] at a;simp only[bk] at b;obtain⟨j,d⟩:=b;have d:=gX d;simp only[bG] at a;rw[t] at q;obtain⟨O,P,ex⟩:=c.tree id _ f;generalize D:A.eval z=dl at q;cases q with|mv=>(obtain⟨r,i,h,a⟩:=l9.Gv a;obtain⟨a0,V,M,p,n,am⟩:=wE c i;exact e6.zw y v w c x u j d (S:=[id,s]) ac (xs:=[]) (f1:=[]) D ⟨bo,0,bn,.inl ⟨bn,bn,bn,bn⟩⟩ ac ac p n (by grind) (by grind) ac (by grind) (by grind))|view I ap d8 d9 ek=>
  rename_i m f7 f6 ad;rw[f] at I;cases I;obtain⟨ao,_,G⟩:=a5.gz.1 ap;cases ao;obtain⟨r,i,h,a⟩:=l9.Gv a;obtain⟨a0,V,M,p,n,am⟩:=wE c i;rw[G] at O;obtain⟨fr,ay,em,eq⟩:=agt (show aU (be F C.B) J (.osl e) _ l (H id) from O) P d8 d9 ek;have f2:((l.take co).drop c2).length=co-c2:=(by grind [kE.osl]);exact e6.zw y v w c x u j d (S:=[id,s]) ac D ay em (λm b=>⟨id,ac,_,f,eq m b⟩) p n (by grind) (by grind) (by grind) h a
 ·rename_i t;split at a
  case h_2=>exact a.elim
  rename_i e fz;cases b:(bb T e&&b2 e.size 1300) with
  |false=>rw[b] at a;exact a.elim
  |true=>
  rw[b] at a;simp only[bk] at b;obtain⟨j,d⟩:=b;have d:=gX d;simp only[bG] at a;rw[t] at q;generalize D:A.eval z=dl at q;cases q;obtain⟨r,i,h,a⟩:=l9.Gv a;obtain⟨a0,V,M,p,n,am⟩:=wE c i;exact e6.zw y v w c x u j d (S:=[s]) ac (xs:=[]) (f1:=[]) D ⟨bo,0,bn,.inl ⟨bn,bn,bn,bn⟩⟩ ac ac p n (by grind) (by grind) ac (by grind) (by grind)
 exact a.elim
end
end
section
def iw (E:fF) (C:e4) (A:bT bR) (g:aj5) (st:aQ) (Q:aQ->Prop):Prop:=
 ∀(a:Act) (e:bC),gM C st a.tmps e->∀c:b5->Act->bC->Prop,(∀d b f,Q d->b.defers=a.defers->gM C d b.tmps f->c .normal b f)->wpOps E.P A c g a e
def kX (A:bT bR) (st:aQ) (d:bR) (a:bA):Prop:=
 match d.guard with
 |none=>a=bq
 |some (c,e)=>match(A[c]?).bind (·.dst) with
  |some b=>match gt st.g b with
   |.val .bool f=>(f==e)=a
   |.dh (.tuple _)=>a=bp
   |_=>b4
  |none=>b4
section
variable {E:fF} {C:e4} {st:aQ} {A:bT bR} {Q:aQ->Prop}
theorem kX.ok {b:Act} (h:cK C st b.tmps f j r p) {l:bR} {g:bA} (d:kX A st l g):amY l (yielded A b.tmps)=g:=by
 unfold kX at d;unfold amY;split at d
 ·grind
 rename_i t w m;rw[m];split at d
 ·rename_i c i;split at d
  ·rename_i s e;have:=h.tmp c;rw[e] at this;generalize a:b.tmps.getD c bV=q at this;cases this with|val o=>
   obtain⟨_,rfl⟩:=o;have n:b.tmps[c]?=Y (.bool s):=by
    rw[anH] at a;cases k:b.tmps[c]? with
    |none=>rw[k] at a;cases a
    |some v=>rw[k] at a;simp only[wX] at a;rw[a];rfl
   simp only[yielded,i,aE,n];rw[<-d];grind
  ·rename_i u e;have:=h.tmp c;rw[e] at this;generalize a:b.tmps.getD c bV=q at this;cases this;subst d;simp only[yielded,i,aE];rw[anH] at a;grind
  grind
 grind
def iw.nil (b:Q st):iw E C A [] st Q:=λa e c _ d=>d st a e b bn c
def iw.op {a:bR} (p:A[b]?=Y a) (t:kX A st a bq) (i:e6 E C a st (λd=>iw E C A k d Q)):iw E C A (b::k) st Q:=by intro f v c e q;obtain⟨y,B,z,l⟩:=id c;simp only[wpOps,p];rw[t.ok l,aw bn];exact .inl (i f v c _ _ (λd g w o m r=>o g w r e (λu h x j n s=>q u h x j (n.trans m) s)))
theorem iw.skip {a:bR} (r:A[i]?=Y a) (o:a.dst=Y b) (q:C.ok b) (u:kX A st a bp) (l:iw E C A k ⟨(b,.dh bV)::st.g,st.h⟩ Q):iw E C A (i::k) st Q:=by intro z x n e s;obtain⟨d,v,j,c⟩:=id n;simp only[wpOps,r];rw[u.ok c,au ac,o];exact l _ x ⟨d,v,j,c.put q (.dh bV)⟩ e (λw f y m p t=>s w f y m p t)
def gM.zI {b:ev} {c:bC} {st a:aQ} (f:gM C st b c) (j:pd a.g st) (k:pe a.h st) (l:mN a.g a.h=bq):gM C a b c:=by obtain⟨d,m,e,i⟩:=f;exact⟨d,m,e,i.zI j k (mN.get l)⟩
def J (E:fF) (C:e4) (e:cq) (st:aQ) (Q:b5->aQ->Prop):Prop:=
 ∀(a:Act) (d:bC),gM C st a.tmps d->a.defers=[]->e.wp E.P (λf b g=>∃c,Q f c/\gM C c b.tmps g/\b.defers=[]) a d
variable {R:b5->aQ->Prop}
def J.agw {a:cq} (f:pd z.g st) (i:pe z.h st) (j:mN z.g z.h=bq) (c:J E C a z R):J E C a st R:=λb k d e=>c b k (d.zI f i j) e
theorem J.region {id:X} (c:iw E C A (bJ A.size) st (λa=>R .normal a)):J E C (.region id A bp) st R:=
 λb i d e=>wp_region (c b i d _ (λa _a' _w' g f h=>⟨a,g,h,f.trans e⟩))
theorem J.skip (a:R .normal st):J E C .skip st R:=λ_ _ b c=>wp_skip ⟨st,a,b,c⟩
theorem J.exit {id:X} (a:R (.exit id) st):J E C (.exit id) st R:=λ_ _ b c=>wp_exit ⟨st,a,b,c⟩
theorem J.ret (a:R .ret st):J E C .ret st R:=λ_ _ b c=>wp_ret ⟨st,a,b,c⟩
def ae2 (E:fF) (C:e4) (b:cq) (R:b5->aQ->Prop):b5->aQ->Prop
 |.normal,a=>J E C b a R
 |e,a=>R e a
def J.seq {d e:cq} (i:J E C d st (ae2 E C e R)):J E C (.seq d e) st R:=λf m j k=>by
 refine wp_seq (wp_mono (i f m j k) ?_);rintro h g n ⟨l,a,b,c⟩;cases h with
 |normal=>exact a g n b c
 |_=>exact⟨l,a,b,c⟩
def J.cond {a:bM} {l m:cq} {c:bA} (n:aV st.g a=.val .bool c) (p:c=bq->J E C l st R) (o:c=bp->J E C m st R):J E C (.cond a l m) st R:=by
 rintro b k ⟨f,j,h,e⟩ i;have:=e.aV a;rw[n] at this;generalize q:b.eval a=s at this;cases this with|val r=>
 obtain⟨_,rfl⟩:=r;exact wp_cond_split q (λd=>p d b k ⟨f,j,h,e⟩ i) (λd=>o d b k ⟨f,j,h,e⟩ i)
def HB (id:X) (R:b5->aQ->Prop):b5->aQ->Prop
 |.exit b,a=>match bH b id with
  |true=>R .normal a
  |false=>R (.exit b) a
 |e,a=>R e a
theorem J.block {id:X} {b:cq} (f:J E C b st (HB id R)):J E C (.block id b) st R:=λd m i j=>by
 refine wp_block (wp_mono (f d m i j) ?_);rintro e n o ⟨l,a,g,h⟩;cases e with
 |exit c=>
  simp only[Exit.inBlock];simp only[HB] at a;by_cases k:c=id
  ·subst k;rw[ame] at a;grind
  have:bH c id=bp:=(by grind [akR]);grind
 |_=>exact⟨l,a,g,h⟩
def ky {a c:Type} (b:a->bv (a⊕c)):X->a->bv c
 |0,_=>bo
 |n+1,e=>match b e with
  |none=>bo
  |some (.inl f)=>ky b n f
  |some (.inr d)=>Y d
open Classical in
def loop {σ ρ:Type} (a:σ->bv (σ⊕ρ)) (d:σ):bv ρ:=
 if h:∃c,∃b,ky a b d=Y c then Y h.choose else bo
theorem JA {e g:Type} {f:e->bv (e⊕g)}:∀{n b:X} {d:e} {c:g},n<=b->ky f n d=Y c->ky f b d=Y c
 |0,_,_,_,_,a=>by cases a
 |n+1,0,_,_,a,_=>by omega
 |n+1,b+1,d,c,h,a=>by
  simp only[ky] at a|-;split at a
  ·cases a
  ·exact JA aa a
  omega
theorem A8 {c:y->bv (y⊕S)} {d:y} {b:S}:loop c d=Y b↔∃a,ky c a d=Y b:=by
 unfold loop;constructor
 ·intro g;split at g
  ·grind
  grind
 rintro⟨a,f⟩;have e:∃b,∃a,ky c a d=Y b:=⟨b,a,f⟩;rw[alm e];obtain⟨h,j⟩:=e.choose_spec;have i:=JA (Nat.le_max_left a h) f;grind [JA,Nat.le_max_right]
theorem PA (c:y->bv (y⊕S)) (d:y):loop c d=match c d with
 |none=>bo
 |some (.inl f)=>loop c f
 |some (.inr e)=>Y e:=by
 apply Option.ext;intro e;rw[A8];cases i:c d with
 |none=>
  simp only[reduceCtorEq,iff_false];rintro⟨a,b⟩;cases a with
  |zero=>cases b
  |succ a=>grind [ky]
 |some g=>
  cases g with
  |inl f=>
   simp only;rw[A8];constructor
   ·rintro⟨a,b⟩;cases a with
    |zero=>cases b
    |succ a=>grind [ky]
   rintro⟨a,b⟩;exact⟨a+1,by grind [ky]⟩
  |inr j=>
   simp only;constructor
   ·rintro⟨a,b⟩;cases a with
    |zero=>cases b
    |succ a=>grind [ky]
   intro h;exact⟨1,by grind [ky]⟩
theorem J.loop {σ ρ K:Type} {b:cq} (k8:σ->aQ) {z:σ->bv (σ⊕ρ)} {s:σ} {w:ρ->bv K} {I:K} (N:(loop z s).bind w=Y I) (T:pd (k8 s).g st) (U:pe (k8 s).h st) (V:mN (k8 s).g (k8 s).h=bq) (S:∀d q,z d=Y q->(match q with|.inl _=>True|.inr G=>w G=Y I)->J E C b (k8 d) (λc t=>match q with
  |.inl r=>c=.normal/\pd (k8 r).g t/\pe (k8 r).h t/\mN (k8 r).g (k8 r).h=bq
  |.inr _=>(c=.normal->b4)/\R c t)):J E C (.loop b) st R:=by
 obtain⟨G,am,bl⟩:=eV.1 N;obtain⟨p,i⟩:=A8.1 am;have ap:∀(p:X) (d:σ) (e:Act) (l:bC),ky z p d=Y G->gM C (k8 d) e.tmps l->e.defers=[]->∀(j:Frame) (w:bm Item) (k:bm Frame),
  ∃c v B,(∃t,R c t/\gM C t v.tmps B/\v.defers=[])/\Arrives E.P (lone (j.at e (.code b::.inLoop b::w)) k l) j w k c v B:=by
  intro p
  induction p with
  |zero=>intro d e l i;cases i
  |succ p an=>
   intro d e l i D F j A k;simp only[ky] at i;cases H:z d with
   |none=>grind
   |some q=>
    rw[H] at i;have Q:=S d q H (by
     grind)
    obtain⟨c,m,u,⟨y,a,o,n⟩,f⟩:=Q e l D F j (.inLoop b::A) k;cases q with
    |inl r=>
     simp only at i a;obtain⟨rfl,ay,av,a0⟩:=a;obtain⟨M,L,a3,ad,O⟩:=an r m u i (o.zI ay av a0) n j A k;exact⟨M,L,a3,ad,.of_steps (Steps.trans f (.one step_inLoop)) O⟩
    |inr ce=>
     obtain⟨bs,a⟩:=a;cases c with
     |normal=>grind
     |exit id=>exact⟨_,m,u,⟨y,a,o,n⟩,.pass (x:=.inLoop b) rfl (λ_ _=>.inl ac) f⟩
     |goto bx=>exact⟨_,m,u,⟨y,a,o,n⟩,.pass (x:=.inLoop b) rfl (λ_ _=>.inl ac) f⟩
     |ret=>exact⟨_,m,u,⟨y,a,o,n⟩,.pass (x:=.inLoop b) rfl (λ_ _=>.inl ac) f⟩
     |panic a4=>exact⟨_,m,u,⟨y,a,o,n⟩,.pass (x:=.inLoop b) rfl (λ_ _=>.inl ac) f⟩
     |outgrown=>exact⟨_,m,u,⟨y,a,o,n⟩,.pass (x:=.inLoop b) rfl (λ_ _=>.inl ac) f⟩
 refine J.agw T U V (λe l D F j A k=>?_);obtain⟨c,v,B,a,f⟩:=ap p s e l i D F j A k;exact⟨c,v,B,a,.of_steps (.one step_loop) f⟩
end
end
def tI:eE->eE->bA
 |.bg,_=>bq
 |.c9,.c9=>bq
 |.c9,.bg=>bp
def x3:eE->bA
 |.c9=>bq
 |.bg=>bp
def eK:ah->ah->bA
 |.int i,.int j=>if i=j then bq else bp
 |.bool,.bool|.str,.str|.nil,.nil=>bq
 |.a8 c a,.a8 d b=>tI c d&&eK a b
 |.osl a,.a8 c b=>x3 c&&eK a b
 |.ptr c a,.ptr d b=>tI c d&&eK a b
 |.st a,.st b=>eK a b
 |.pr e f,.pr g h=>eK e g&&eK f h
 |.mp a,.fB c b=>x3 c&&eK a b
 |.fB c a,.fB d b=>tI c d&&eK a b
 |.fn k a,.fn c b=>bH k c&&eK a b
 |_,_=>bp
theorem tI.ok {f e:X->Prop} (h:∀b,j b->e b) {c d:eE} (g:tI c d=bq) (a:be f j c b):be f e d b:=by
 cases c<;>cases d
 ·exact a
 ·exact .inl a
 ·cases g
 exact a.imp id (h b)
theorem x3.ok {a:eE} (b:x3 a=bq):a=.c9:=by cases a;cases b;rfl
theorem eK.den:∀{e b:ah},eK e b=bq->e.den=b.den:=by
 intro e
 induction e with
 |a8 f c d=>
  intro b a;cases b<;>simp only[eK] at a<;>try (cases a;done)
  grind
 |ptr f c d=>
  intro b a;cases b<;>simp only[eK] at a<;>try (cases a;done)
  grind
 |osl c d=>
  intro b a;cases b<;>simp only[eK] at a<;>try (cases a;done)
  grind
 |st c d=>
  intro b a;cases b with
  |st m=>grind [eK]
  |_=>simp only[eK] at a;cases a
 |pr g h i j=>
  intro b a;cases b<;>simp only[eK] at a<;>try (cases a;done)
  grind
 |int k=>intro b a;cases b<;>simp only[eK] at a<;>first|rfl|cases a
 |bool=>intro b a;cases b<;>simp only[eK] at a<;>first|rfl|cases a
 |str=>intro b a;cases b<;>simp only[eK] at a<;>first|rfl|cases a
 |nil=>intro b a;cases b<;>simp only[eK] at a<;>first|rfl|cases a
 |optr c _=>grind [eK]
 |eF=>grind [eK]
 |mp c d=>
  intro b a;cases b<;>simp only[eK] at a<;>try (cases a;done)
  grind
 |fB f c d=>
  intro b a;cases b<;>simp only[eK] at a<;>try (cases a;done)
  grind
 |fn l c d=>
  intro b a;cases b<;>simp only[eK] at a<;>try (cases a;done)
  grind
theorem eK.size:∀{c b:ah},eK c b=bq->c.size=b.size:=by
 intro c
 induction c with
 |st i d=>intro b a;cases b<;>simp only[eK] at a<;>first|(simp only[ah.size];exact d a)|cases a
 |pr e f g h=>
  intro b a;cases b<;>simp only[eK] at a<;>try (cases a;done)
  simp only[bk] at a;grind [ah.size]
 |_=>intro b a;cases b<;>simp only[eK] at a<;>first|rfl|cases a
theorem OQ (k:y=S) {d:bv (bm (Z×y)×X)} {g:bv (bm (Z×S)×X)} (l:HEq d g):(d=bo/\g=bo)\/∃i a j,d=Y (i,a)/\g=Y (j,a)/\∀e:bm (Z×X×y),kG e i a->∃f:bm (Z×X×S),kG f j a/\f.length=e.length/\∀(h:X) (c:Z×X×S),f[h]?=Y c->∃b:Z×X×y,e[h]?=Y b/\b.1=c.1/\b.2.1=c.2.1/\HEq b.2.2 c.2.2:=by
 subst k;cases l;cases d with
 |none=>grind
 |some m=>grind
theorem eK.c0 {a b:ah} (d:eK a b=bq) (c:ey):c0 b c=jy.c0 a c:=by cases a<;>cases b<;>simp only[eK] at d<;>first|rfl|cases d
theorem OP (f:S=y) {a:bm S} {b:bm y} (g:HEq a b):b.length=a.length/\∀(e:X) (d:y),b[e]?=Y d->∃c,a[e]?=Y c/\HEq c d:=by subst f;grind
theorem X9 (e:y=S) {a:bv y} {c:bv S} (f:HEq a c):(a=bo/\c=bo)\/∃b d,a=Y b/\c=Y d/\HEq b d:=by
 subst e;cases f;cases a with
 |none=>grind
 |some b=>grind
theorem Ya {c d:Type} (e:y=c) (f:S=d) {a:y×S} {b:c×d} (g:HEq a b):HEq a.1 b.1/\HEq a.2 b.2:=by grind
theorem aU.c9 {E D:X->Prop} (N:∀d,D d->j d):∀{r υ:ah} {e:ey} {x:r.den} {y:υ.den} {g:aj5},eK r υ=bq->HEq x y->aU (be E D) f r e x g->(∀d∈g,j d)->aU (be E j) f υ e y []:=by
 intro r
 induction r with
 |int cs=>
  intro υ e x y g a c b _;cases υ<;>simp only[eK] at a<;>try (cases a;done)
  split at a
  ·rename_i K;subst K;cases c;exact⟨bn,b.2⟩
  grind
 |bool=>intro υ e x y g a c b _;cases υ<;>simp only[eK] at a<;>first|(cases a;done)|(cases c;exact⟨bn,b.2⟩)
 |str=>intro υ e x y g a c b _;cases υ<;>simp only[eK] at a<;>first|(cases a;done)|(cases c;exact⟨bn,b.2⟩)
 |nil=>intro υ e x y g a c b _;cases υ<;>simp only[eK] at a<;>first|(cases a;done)|(cases c;exact⟨bn,b.2⟩)
 |optr l _=>grind [eK]
 |eF=>grind [eK]
 |mp l k=>
  intro υ e x y g a c b h;cases υ<;>simp only[eK] at a<;>try (cases a;done)
  simp only[bk] at a;obtain rfl:=x3.ok a.1;rcases OQ (eK.den a.2) c with⟨rfl,rfl⟩|⟨R,G,S,rfl,rfl,i⟩
  ·exact⟨bn,b.2⟩
  obtain⟨d,v,s,ay,n,z,q,C,U⟩:=b;obtain⟨t,A,p,i⟩:=i s z;refine⟨d,v,t,ay,bn,A,.inr (h d (by grind)),q,aa,λm T P=>?_⟩;grind [eK.size,eK.c0]
 |fB B l k=>
  intro υ e x y g a c b h;cases υ<;>simp only[eK] at a<;>try (cases a;done)
  simp only[bk] at a;rcases OQ (eK.den a.2) c with⟨rfl,rfl⟩|⟨R,G,S,rfl,rfl,i⟩
  ·exact⟨bn,b.2⟩
  obtain⟨d,v,s,ay,n,z,O,q,C,U⟩:=b;obtain⟨t,A,p,i⟩:=i s z;refine⟨d,v,t,ay,bn,A,tI.ok N a.1 O,q,aa,λm T P=>?_⟩;grind [eK.size,eK.c0]
 |fn cv l k=>
  intro υ e x y g a c b h;cases υ<;>simp only[eK] at a<;>try (cases a;done)
  rename_i B o;simp only[bk] at a;obtain rfl:=fA a.1;obtain⟨_,V,ay,n⟩:=b;exact⟨bn,V,ay,k (υ:=o) (x:=x) (y:=y) a.2 c n ac⟩
 |st l k=>
  intro υ e x y g a c b h;cases υ with
  |st o=>exact k (υ:=o) (x:=x) (y:=y) (by grind [eK]) c b h
  |_=>simp only[eK] at a;cases a
 |pr J d ci co=>
  intro υ e x y g a c b h;cases υ<;>simp only[eK] at a<;>try (cases a;done)
  rename_i G an;simp only[bk] at a;obtain⟨bl,f2,rfl,w,M⟩:=b;obtain⟨ao,a4⟩:=Ya (eK.den a.1) (eK.den a.2) c;have ce:=eK.size a.1;exact⟨[],[],bn,by grind,by grind⟩
 |a8 B l k=>
  intro υ e x y g a c b h;obtain⟨rfl,F,u,rfl,ay,n,q⟩:=b;cases υ<;>simp only[eK] at a<;>try (cases a;done)
  rename_i H o;simp only[bk] at a;obtain⟨p,i⟩:=OP (eK.den a.2) c;refine⟨bn,F,u,by rw[p],aa,n,?_⟩;grind [tI.ok,eK.size,List.eq_nil_of_length_eq_zero]
 |osl l k=>
  intro υ e x y g a c b h;cases υ<;>simp only[eK] at a<;>try (cases a;done)
  rename_i H o;simp only[bk] at a;obtain rfl:=x3.ok a.1;obtain⟨F,u,rfl,b⟩:=b;obtain⟨p,i⟩:=OP (eK.den a.2) c;rcases b with⟨rfl,rfl,rfl,rfl⟩|⟨d,I,L,rfl,rfl,ay,n,q,C⟩
  ·obtain rfl:y=[]:=re aa;exact⟨bn,bo,0,bn,bd _,λ_=>rfl,.inl bn⟩
  refine⟨bn,Y ⟨d,I,bo⟩,u,by rw[p],aa,(λa=>by cases a),.inr ⟨d,I,bn,.inr (h d ac),λm ad Q=>?_⟩⟩;obtain⟨am,w,M⟩:=i m ad Q;have bx:m<x.length:=(hT.1 w).1;obtain⟨a3,ap,av,a0⟩:=C m am (L[m]'(by omega)) w ac
  grind [alx,aly,b3,eK.size]
 |ptr B l k=>
  intro υ e x y g a c b h;obtain⟨rfl,b⟩:=b;cases υ<;>simp only[eK] at a<;>try (cases a;done)
  rename_i H o;simp only[bk] at a;refine⟨bn,?_⟩;rcases X9 (eK.den a.2) c with⟨rfl,rfl⟩|⟨J,d,rfl,rfl,bs⟩
  ·exact b
  grind [tI.ok,eK.size]
inductive ow:(τ:ah)->τ.den->(υ:ah)->υ.den->Prop
 |same {τ υ:ah} {x:τ.den} {y:υ.den} (h:eK τ υ=bq) (X8:HEq x y):ow τ x υ y
 |ptr {t u:ah} {x:t.den} {y:u.den} (h:eK t u=bq) (X8:HEq x y):ow (.optr t) x (.ptr .c9 u) (Y y)
theorem ow.rep {g B:X->Prop} (i:∀a,B a->j a) {m:d.den} {n:q.den} (b:ow d m q n) (l:aU (be g B) f d h m k) (e:∀a∈k,j a):aU (be g j) f q h n []:=by
 cases b with
 |same b c=>exact l.c9 i b c e
 |ptr b c=>
  obtain⟨a,r,u,p,rfl,rfl,ay,s,w,t⟩:=l;exact⟨bn,a,r,p,bn,.inr (e a ac),by grind [eK.size],s,t.c9 i b c (λo v=>e o (by grind))⟩
def ow.st {c:d.den} {e:q.den} (a:ow d c q e) (b:ey):c0 d b=c0 q b:=by
 cases a with
 |same a _=>cases d<;>cases q<;>first|rfl|(simp only[eK] at a;cases a;done)
 |ptr a _=>rfl
section
def mG {c d e:Type} (b:c->d->e->Prop):bm c->bm d->bm e->Prop
 |[],[],[]=>True
 |a::as,f::g,h::i=>b a f h/\mG b as g i
 |_,_,_=>b4
def iM {c d:Type} (b:c->d->Prop):bm c->bm d->Prop
 |[],[]=>True
 |a::as,e::f=>b a e/\iM b as f
 |_,_=>b4
theorem Ml {d e:Type} {f:d->e->Prop}:∀{as:bm d} {c:bm e},iM f as c->c.length=as.length
 |[],[],_=>rfl
 |[],_::_,b=>b.elim
 |_::_,[],b=>b.elim
 |a::as,g::c,b=>by have:=Ml b.2;grind
def Hi {e f:Type} {c:e->f->Prop}:∀{as:bm e} {d:bm f} {g:bm e} {h:bm f},iM c as d->iM c g h->iM c (as++g) (d++h)
 |[],[],_,_,_,b=>b
 |[],_::_,_,_,b,_=>b.elim
 |_::_,[],_,_,b,_=>b.elim
 |a::as,j::d,_,_,b,i=>⟨b.1,Hi b.2 i⟩
theorem zt {h i:Type} {f:h->i->Prop}:∀{as:bm h} {c:bm i},as.length=c.length->(∀(e:X) a b,as[e]?=Y a->c[e]?=Y b->f a b)->iM f as c
 |[],[],_,_=>trivial
 |[],_::_,d,_=>by cases d
 |_::_,[],d,_=>by cases d
 |a::as,b::c,d,g=>⟨g 0 a b bn rfl,zt (by grind) (λe j k l m=>g (e+1) j k (by grind) (by grind))⟩
def Hj {b g h:Type} {c:g->h->Prop} {d:b->g} {e:b->h} (f:∀x,c (d x) (e x)):∀a:bm b,iM c (a.map d) (a.map e)
 |[]=>trivial
 |x::a=>⟨f x,Hj f a⟩
inductive hL where
 |v (t:aG)
 |m (t:aG) (y:t.1.den)
 |o (t:aG)
 |c (f:X) (ahb:bm aG)
 |n
 |s (f:X) (l:aj5)
 |w (σ:ah) (xs:bm σ.den) (lo hi:X) (ys:bm σ.den)
def y5 (I c:X->Prop) (w:bC) (a:aG) (d:Value):Prop:=∃b,d=c0 a.1 b/\aU (be I c) w a.1 b a.2 []
def y2 (I f:X->Prop) (w:bC):hL->Value->aj5->Prop
 |.v b,d,a=>a=[]/\∃e,d=c0 b.1 e/\aU (be I f) w b.1 e b.2 []
 |.m b _,d,a=>∃e,d=c0 b.1 e/\aU (be I f) w b.1 e b.2 a
 |.o b,d,a=>∃e,d=c0 b.1 e/\aU (be I f) w b.1 e b.2 a
 |.n,d,a=>a=[]/\d=.slice bo 0 0
 |.s _ _,_,a=>a=[]
 |.w q h g j _,d,a=>∃k l i,d=.slice (Y ⟨k,l+g*q.size,bo⟩) (j-g) (i-g)/\(g<j/\j<=h.length/\h.length<=i)/\aU (be I f) w (.osl q) [.slice (Y ⟨k,l,bo⟩) h.length i] h a
 |.c r t,d,a=>a=[]/\∃p:ey,d=.func (.func r) #[] p.toArray/\iM (y5 I f w) t p
def pK:X->bm hL->bv dY
 |_,[]=>bo
 |k,.s a b::_=>Y (k,a,b)
 |k,_::c=>pK (k+1) c
def L7 (w:bC) (b:ey) (i:es):bv dY->Prop
 |none=>True
 |some (d,h,e)=>d<b.length/\(∀c∈e,c<b.length)/\∃a f g,b.getD d bV=.pointer (Y ⟨a,f,bo⟩)/\a<w.heap.size/\a∉i.flatten/\w.cell? ⟨a,f,bo⟩=Y (.func (.func h) #[] g)/\g.toList=e.map λc=>b.getD c bV
def y3 (I e:X->Prop) (w:bC):hL->Value->aj5->Prop
 |.m i n,d,a=>∃g,d=c0 i.1 g/\aU (be I e) w i.1 g n a
 |.w j l b k o,d,a=>∃f h c,d=.slice (Y ⟨f,h+b*j.size,bo⟩) (k-b) (c-b)/\b<c/\aU (be I e) w (.osl j) [.slice (Y ⟨f,h,bo⟩) l.length c] o a
 |_,_,a=>a=[]
def Cn (I:X->Prop) (w:bC) (a:aG) (d:Value) (c:aj5):Prop:=∃b,d=c0 a.1 b/\aU (be I (λ_=>b4)) w a.1 b a.2 c
def qR:ey->Value
 |[v]=>v
 |vs=>.tuple vs.toArray
structure L5 (I B:X->Prop) (w:bC) (fs:es) (args:bm hL) (vs:ey) (res:bm aG) (I':X->Prop) (gs hs:es) (cX:ey) (w':bC):Prop where
 args:mG (y3 I' B w') args vs gs
 res:mG (Cn I' w') res cX hs
 nd:(gs.flatten++hs.flatten).Nodup
 MS:∀b∈gs.flatten++hs.flatten,¬I' b/\¬B b/\b<w'.heap.size/\(w.heap.size<=b\/b∈fs.flatten)
 i:∀b,I b->I' b
 i2:∀b,I' b->I b\/(b<w'.heap.size/\(w.heap.size<=b\/b∈fs.flatten))
 size:w.heap.size<=w'.heap.size
 os:w'.os=w.os
 tape:w'.tape=w.tape
 output:w'.output=w.output
 evo:∀b,b<w.heap.size->kY w w' b
 heap:∀b,b<w.heap.size->b∉fs.flatten->w'.heap[b]?=w.heap[b]?
def lv (E:fF) (I:X->Prop) (w:bC):Prop:=∀a∈E.glob,aU (be I λ_=>b4) w (.a8 .bg (.int a.k)) [.slice (Y ⟨a.b,0,bo⟩) a.xs.length a.xs.length] a.xs []
theorem lv.mono {E:fF} {I I':X->Prop} {w w':bC} (g:lv E I w) (c:∀a,I a->I' a) (i:∀a,I a->w'.heap[a]?=w.heap[a]?):lv E I' w':=λf h=>
 (g f h).mono (λe a d=>by
  have b:I a:=(by cases e;exact d;exact d.elim id False.elim);exact⟨by cases e;exact c a b;exact .inl (c a b),c8.of_heap (i a b)⟩) (λa b=>by cases b)
def sk (E:fF) (g:FuncId) (e:bm hL) (j:bm aG):Prop:=
 ∀(w:bC) (I c:X->Prop) (d:ey) (b:es),(∀a,I a\/c a->a<w.heap.size)->mG (y2 I c w) e d b->b.flatten.Nodup->(∀a∈b.flatten,¬I a/\¬c a/\a<w.heap.size)->L7 w d b (pK 0 e)->lv E I w->Calls E.P g d.toArray w (λf w'=>∃I' h i cX,f=.returned (qR cX)/\L5 I c w b e d j I' h i cX w')
def ah.ga:ah->bA
 |.a8 .c9 _|.ptr .c9 _|.fB .c9 _=>bp
 |.a8 .bg a|.ptr .bg a|.osl a|.optr a|.st a|.mp a|.fB .bg a|.fn _ a=>a.ga
 |.pr b c=>b.ga&&c.ga
 |_=>bq
def sg:ah->bA
 |.pr _ _|.nil|.eF=>bp
 |_=>bq
def aev (b:sg d=bq) (c:h.length=d.size) (e:N.length=d.size) (a:c0 d h=c0 d N):h=N:=by
 have i:d.size=1->c0 d h=h.headD bV->c0 d N=N.headD bV->h=N:=(by intro g ao f;rw[g] at c e;obtain⟨k,rfl⟩:=p4.1 c;obtain⟨l,rfl⟩:=p4.1 e;rw[ao,f] at a;simpa using a);cases d with
 |st j=>have a:aoI h.toArray=aoI N.toArray:=a;simpa using a
 |pr=>cases b
 |nil=>cases b
 |eF=>cases b
 |_=>exact i bn rfl rfl
def y1 (g:bm (X×aG)) (f:aj5):ak->aG->Prop
 |.val b i,a=>ow b i a.1 a.2
 |.dh d,a=>i9 a.1 d.cells.toList=Y a.2/\c0 a.1 d.cells.toList=d
 |.ref id h,a=>eX id f=bp/\∃c b e,aq g id=Y c/\eT c.1 c.2 h b e/\ow b e a.1 a.2
 |_,_=>b4
mutual
inductive o3 (h:bm (X×aG)) (S:aj5):ak->(τ:ah)->τ.den->Prop
 |base {a:ak} {τ:ah} {x:τ.den} (I2:y1 h S a ⟨τ,x⟩):o3 h S a τ x
 |hG {a:ak} {τ:ah} {x:τ.den} (hv:o0 τ=bq) (I2:o3 h S a τ x):o3 h S (.hG a) (.ptr .bg τ) (Y x)
 |eA {n:X} {l:bm ak} {τ:ah} {x:τ.den} (E6:wL h S l τ x):o3 h S (.eA n l) (.fn n τ) x
inductive wL (h:bm (X×aG)) (S:aj5):bm ak->(τ:ah)->τ.den->Prop
 |nil:wL h S [] .nil ()
 |cons {a:ak} {l:bm ak} {τ υ:ah} {x:τ.den} {y:υ.den} (hv:o0 τ=bq) (I2:o3 h S a τ x) (E6:wL h S l υ y):wL h S (a::l) (.pr τ υ) (x,y)
end
def TQ (b:bm (X×aG)) (f:aj5):ak->hL->Prop
 |av,.v a=>y1 b f av a
 |.ref id [],.m a _=>aq b id=Y a/\a.1.ga=bq/\sg a.1=bq
 |.ref id [],.o a=>aq b id=Y a
 |.eA p d,.c l q=>p=l/\iM (λj a=>o3 b f j a.1 a.2) d q
 |.dh e,.o a=>e=.slice bo 0 0/\∃t,a=⟨.osl t,[]⟩
 |.dh e,.n=>e=.slice bo 0 0
 |.view id [] h g,.w i r d k _=>aq b id=Y ⟨.osl i,r⟩/\(d=h/\k=g)/\h<g/\i.ga=bq
 |_,.s _ _=>True
 |_,_=>b4
def o2 (c:bm (X×aG)) (b:aj5):bm ak->bm hL->Prop
 |[],[]=>True
 |a::as,d::e=>TQ c b a d/\o2 c b as e
 |_,_=>b4
def gw:bm ak->bm hL->aj5
 |.ref id []::as,.m _ _::a=>id::gw as a
 |.ref id []::as,.o _::a=>id::gw as a
 |.view id [] _ _::as,.w _ _ _ _ _::a=>id::gw as a
 |_::as,_::a=>gw as a
 |_,_=>[]
def mP:bm ak->bm hL->aj5
 |.ref id []::as,.m _ _::a=>id::mP as a
 |.view id [] _ _::as,.w _ _ _ _ _::a=>id::mP as a
 |_::as,_::a=>mP as a
 |_,_=>[]
def kh:bm ak->bm hL->bm (X×aG)
 |.ref id []::as,.m b c::a=>(id,⟨b.1,c⟩)::kh as a
 |.view id [] _ _::as,.w e _ _ _ d::a=>(id,⟨.osl e,d⟩)::kh as a
 |_::as,_::a=>kh as a
 |_,_=>[]
def r8 (a:X) (c:bA) (b:X):X:=bif c then a else 1000*(a+1)+b
def wk (b:X) (c:bA):X->bm aG->bm ak
 |_,[]=>[]
 |j,a::d=>(bif a.1.pure then .val a.1 a.2 else .ref (r8 b c j) [])::wk b c (j+1) d
def jo (a:X) (b:bA):X->bm aG->bm (X×aG)
 |_,[]=>[]
 |j,d::c=>bif d.1.pure then jo a b (j+1) c else(r8 a b j,d)::jo a b (j+1) c
def wj (a:X):bm aG->ak
 |[t]=>bif t.1.pure then .val t.1 t.2 else .ref a []
 |l=>.fj (wk a bp 0 l)
def jl:bm aG->bA
 |[_]=>bq
 |_=>bp
def jJ:aj5->bA
 |[]=>bq
 |a::b=>!(eX a b)&&jJ b
theorem jJ.ok:∀{c:aj5},jJ c=bq->c.Nodup
 |[],_=>List.nodup_nil
 |a::e,b=>by simp only[jJ,bk,uo] at b;exact jS.2 ⟨(λd=>by rw[hk.2 d] at b;cases b.1),jJ.ok b.2⟩
def VS (c:X) (st:aQ) (b:bm ak) (a:bm hL) (d:bm aG):aQ:=
 ⟨(c,wj c d)::kill (gw b a) (x6 (mP b a)) st.g,(kh b a++jo c (jl d) 0 d)++del (gw b a) st.h⟩
theorem aU.ga {I G B':X->Prop} {w:bC}:∀{τ:ah} {f:ey} {b:τ.den} {g:aj5},τ.ga=bq->aU (be I G) w τ f b g->aU (be I B') w τ f b g:=by
 intro τ
 induction τ with
 |a8 o m h=>
  intro f b g c a;cases o
  ·obtain⟨j,r,s,ay,d,k,l⟩:=a;refine⟨j,r,s,ay,d,k,l.imp id ?_⟩;rintro⟨e,i,N,v,P⟩;refine⟨e,i,N,v,λp D F=>?_⟩;obtain⟨n,H,J,K⟩:=P p D F;exact⟨n,H,J,h (by simpa only[ah.ga] using c) K⟩
  grind [ah.ga]
 |ptr o m h=>
  intro f b g c a;cases o
  ·obtain⟨j,ay⟩:=a;refine⟨j,?_⟩;cases b with
   |none=>exact ay
   |some D=>
    obtain⟨e,i,n,z,A,B,aS,C⟩:=ay;exact⟨e,i,n,z,A,B,aS,h (by grind [ah.ga]) C⟩
  grind [ah.ga]
 |osl m h=>
  intro f b g c a;obtain⟨r,s,ay,d⟩:=a;refine⟨r,s,ay,d.imp id ?_⟩;rintro⟨e,i,M,z,A,B,aS,C,am⟩;refine⟨e,i,M,z,A,B,aS,C,λp D E F V=>?_⟩;grind [ah.ga]
 |optr m h=>
  intro f b g c a;obtain⟨e,i,E,n,ay,d,k,l,y,S⟩:=a;exact⟨e,i,E,n,ay,d,k,l,y,h (by grind [ah.ga]) S⟩
 |st m h=>intro f b g c a;exact h (by grind [ah.ga]) a
 |mp m h=>
  intro f b g c a;cases b with
  |none=>exact a
  |some x=>
   obtain⟨e,t,q,ay,d,u,k,l,y⟩:=a;refine⟨e,t,q,ay,d,u,k,l,λp x O=>?_⟩;grind [ah.ga]
 |fB o m h=>
  intro f b g c a;cases o
  ·cases b with
   |none=>exact a
   |some x=>
    obtain⟨e,t,q,ay,d,u,v,k,l,y⟩:=a;refine⟨e,t,q,ay,d,u,v,k,l,λp x O=>?_⟩;grind [ah.ga]
  grind [ah.ga]
 |fn ad m h=>
  intro f b g c a;obtain⟨j,T,ay,d⟩:=a;exact⟨j,T,ay,h (by simpa only[ah.ga] using c) d⟩
 |pr U e Q R=>
  intro f b g c a;simp only[ah.ga,bk] at c;obtain⟨L,f2,j,ay,d⟩:=a;exact⟨L,f2,j,Q c.1 ay,R c.2 d⟩
 |_=>intro f b g c a;exact a
theorem Py {e f:Type} (c:e->f):∀(b:bm (X×e)) (a:X),aq (b.map λd=>(d.1,c d.2)) a=(aq b a).map c
 |[],_=>rfl
 |(g,v)::b,a=>by rw[gW,di,di,Py c b a];grind
abbrev Cl:=aG×ey×aj5
def g9 (rt:X->ey):bm ak->bm hL->es->bm (X×Cl)
 |.ref id []::as,.m d e::a,c::b=>(id,(⟨d.1,e⟩,rt id,c))::g9 rt as a b
 |.view id [] _ _::as,.w g _ _ _ f::a,c::b=>(id,(⟨.osl g,f⟩,rt id,c))::g9 rt as a b
 |_::as,_::a,_::b=>g9 rt as a b
 |_,_,_=>[]
def ln (a:X) (b:bA):X->bm aG->en->es->bm (X×Cl)
 |j,f::e,g::c,h::d=>bif f.1.pure then ln a b (j+1) e c d else(r8 a b j,(f,g,h))::ln a b (j+1) e c d
 |_,_,_,_=>[]
theorem Rg {rt:X->ey}:∀{as:bm ak} {bs:bm hL} {gs:es},gs.length=bs.length->(g9 rt as bs gs).map (λf=>(f.1,f.2.1))=kh as bs
 |[],bs,gs,_=>by cases bs<;>cases gs<;>rfl
 |a::as,[],gs,e=>by cases gs with
  |nil=>cases a<;>first|rfl|(rename_i id b;cases b<;>rfl)|(rename_i id b h g;cases b<;>rfl)
  |cons=>cases e
 |a::as,c::bs,[],e=>by cases e
 |a::as,c::bs,i::gs,e=>by
  have d:=Rg (rt:=rt) (as:=as) (bs:=bs) (gs:=gs) (by grind);cases a with
  |ref id b=>cases b with
   |nil=>cases c<;>simp only[g9,kh,gW,d]
   |cons=>cases c<;>simp only[g9,kh,d]
  |view id b h g=>cases b with
   |nil=>cases c<;>simp only[g9,kh,gW,d]
   |cons=>cases c<;>simp only[g9,kh,d]
  |_=>cases c<;>simp only[g9,kh,d]
theorem F8 {d:X} {s:bA}:∀{j:X} {res:bm aG} {cs:en} {hs:es},cs.length=res.length->hs.length=res.length->(ln d s j res cs hs).map (λe=>(e.1,e.2.1))=jo d s j res
 |j,[],cs,hs,a,b=>by cases cs<;>cases hs<;>simp[ln,jo]
 |j,f::c,[],hs,a,b=>by cases a
 |j,f::c,g::cs,[],a,b=>by cases b
 |j,f::c,g::cs,h::hs,a,b=>by have i:=F8 (d:=d) (s:=s) (j:=j+1) (res:=c) (cs:=cs) (hs:=hs) (by grind) (by grind);simp only[ln,jo];grind
section
variable {C:e4} {st:aQ} {A:ev} {w w':bC} {I I' B':X->Prop} {rt:X->ey} {fp:X->aj5}
theorem Rh (D:cK C st A w I rt fp) {S:aj5}:∀{avs:bm ak} {t:ey} {args:bm hL} {gs:es},iM (cP (be I C.B) w st.h rt fp) avs t->o2 st.h S avs args->mG (y3 I' B' w') args t gs->∀a∈g9 rt avs args gs,aU (be I' C.B) w' a.2.1.1 a.2.2.1 a.2.1.2 a.2.2.2/\a.2.2.1=rt a.1/\a.1∈gw avs args/\∃g,aq st.h a.1=Y g/\a.2.1.1=g.1
 |[],t,args,gs,l,p,q,a,b=>by cases args<;>cases gs<;>cases b
 |x::i,t,[],gs,l,p,q,a,b=>by cases x<;>exact p.elim
 |x::i,[],d::u,gs,l,p,q,a,b=>l.elim
 |x::i,v::t,d::u,[],l,p,q,a,b=>q.elim
 |av::i,v::t,d::u,ad::gs,l,p,q,a,b=>by
  obtain⟨M,am⟩:=l;obtain⟨J,an⟩:=p;obtain⟨K,ap⟩:=q;have a0:=Rh D (S:=S) (avs:=i) (args:=u) (gs:=gs) am an ap;have e:a∈g9 rt i u gs->aU (be I' C.B) w' a.2.1.1 a.2.2.1 a.2.1.2 a.2.2.2/\a.2.2.1=rt a.1/\a.1∈gw (av::i) (d::u)/\∃g,aq st.h a.1=Y g/\a.2.1.1=g.1:=by
   intro b;obtain⟨ay,P,r,G⟩:=a0 a b;refine⟨ay,P,?_,G⟩;cases av with
   |ref id f=>cases f<;>cases d<;>simp only[gw]<;>first|exact gC _ r|exact r
   |view id f O L=>cases f<;>cases d<;>simp only[gw]<;>first|exact gC _ r|exact r
   |_=>cases d<;>exact r
  cases av with
  |ref id f=>
   cases f with
   |cons s f=>exact e (by cases d<;>exact b)
   |nil=>
    cases d with
    |v g=>exact e b
    |o g=>exact e b
    |c n d0=>exact e b
    |n=>exact e b
    |s cs a3=>exact e b
    |w bs i O L Q=>exact e b
    |m g d1=>
     simp only[g9,fC] at b;rcases b with rfl|b
     ·obtain⟨j,N,F⟩:=J;obtain⟨ci,k,z⟩:=K;cases M with|ref y E=>
      rw[j] at y;cases y;obtain⟨rfl,rfl,rfl⟩:=a5.gz.1 E;have:=aev F (D.tree id _ j).1.len z.len k;subst this;exact⟨z.ga N,bn,by simp[gw],g,j,bn⟩
     grind
  |view id f O L=>
   cases f with
   |cons s f=>exact e (by cases d<;>exact b)
   |nil=>
    cases d with
    |w bs i a3 k Q=>
     simp only[g9,fC] at b;rcases b with rfl|b
     ·obtain⟨j,⟨rfl,rfl⟩,N,F⟩:=J;obtain⟨d,o,T,k,cv,z⟩:=K;cases M with
      |mv=>omega
      |view y E ay P r=>
      rename_i ds d2 c1 R bl a4 U;rw[j] at y;cases y;obtain⟨ao,co,V⟩:=a5.gz.1 E;simp only[ah.osl.injEq] at ao;subst ao;obtain⟨bx,ce,G,_⟩:=(D.tree id _ j).1;have H:rt id=[.slice (Y ⟨R,bl,bo⟩) a4 U]:=V;rw[G] at H;simp only[h4,aka,ca] at H;rw[au aa] at k;simp only[aka,eZ,akq,ca] at k;obtain⟨⟨c2,dg⟩,dl,aS⟩:=k;have:rt id=[.slice (Y ⟨d,o,bo⟩) i.length T]:=(by grind);refine⟨?_,bn,by simp[gw],_,j,bn⟩;show aU (be I' C.B) w' (.osl _) (rt id) Q ad;rw[this];exact z.ga F
     grind
    |_=>exact e b
  |_=>exact e (by cases d<;>exact b)
theorem Rf {x:aj5}:∀{as:bm ak} {r:bm hL} {g:ey} {e:es},o2 st.h x as r->mG (y3 I' B' w') r g e->((g9 rt as r e).map (λz=>z.2.2.2)).flatten=e.flatten
 |[],[],g,e,f,d=>by cases g<;>cases e<;>first|rfl|exact d.elim
 |[],q::t,g,e,f,d=>f.elim
 |a::as,[],g,e,f,d=>by cases a<;>exact f.elim
 |a::as,q::t,[],e,f,d=>d.elim
 |a::as,q::t,v::g,[],f,d=>d.elim
 |a::as,q::t,v::g,k::e,f,d=>by
  have y:=Rf (as:=as) f.2 d.2;have l:=f.1;have p:=d.1;rw[l0,<-y];cases q with
  |m u F=>
   cases a with
   |ref id b=>cases b with
    |nil=>grind [aln,g9]
    |cons=>exact l.elim
   |_=>exact l.elim
  |w H E C B G=>
   cases a with
   |view id b i j=>cases b with
    |nil=>grind [aln,g9]
    |cons=>exact l.elim
   |ref id b=>cases b<;>exact l.elim
   |_=>exact l.elim
  |v u=>
   have:k=[]:=p;subst this;cases a with
   |ref id b=>grind [g9]
   |view id b i j=>grind [g9]
   |_=>simp only[g9,ho]
  |o u=>
   have:k=[]:=p;subst this;cases a with
   |ref id b=>grind [g9]
   |view id b i j=>grind [g9]
   |_=>simp only[g9,ho]
  |n=>
   have:k=[]:=p;subst this;cases a with
   |ref id b=>grind [g9]
   |view id b i j=>grind [g9]
   |_=>simp only[g9,ho]
  |s A i=>
   have:k=[]:=p;subst this;cases a with
   |ref id b=>grind [g9]
   |view id b i j=>grind [g9]
   |_=>simp only[g9,ho]
  |c n D=>
   have:k=[]:=p;subst this;cases a with
   |ref id b=>grind [g9]
   |view id b i j=>grind [g9]
   |_=>simp only[g9,ho]
theorem RV {I:X->Prop}:∀{e:bm aG} {cX:ey} {b:es},mG (Cn I w) e cX b->∃g:en,g.length=e.length/\b.length=e.length/\cX.length=e.length/\∀(d:X) (t:aG) (c:ey) (a:aj5) (f:Value),e[d]?=Y t->g[d]?=Y c->b[d]?=Y a->cX[d]?=Y f->f=c0 t.1 c/\aU (be I (λ_=>b4)) w t.1 c t.2 a
 |[],cX,b,a=>by cases cX<;>cases b<;>first|exact⟨[],bn,bn,bn,λd t c a f q=>by grind⟩|exact a.elim
 |t::h,[],b,a=>a.elim
 |t::h,f::cX,[],a=>a.elim
 |t::h,f::cX,o::b,a=>by obtain⟨⟨c,k,s⟩,i⟩:=a;obtain⟨g,u,v,x,r⟩:=RV i;refine⟨c::g,by grind,by grind,by grind,λd y j p z ao l m n=>?_⟩;grind
theorem RX {m:X} {n:bA}:∀{j:X} {i:bm aG} {c:en} {d:es},c.length=i.length->d.length=i.length->∀a∈ln m n j i c d,∃e:X,i[e]?=Y a.2.1/\c[e]?=Y a.2.2.1/\d[e]?=Y a.2.2.2
 |j,[],c,d,f,g,a,b=>by cases c<;>cases d<;>simp[ln] at b
 |j,k::h,[],d,f,g,a,b=>by cases f
 |j,k::h,l::c,[],f,g,a,b=>by cases g
 |j,k::h,l::c,q::d,f,g,a,b=>by
  simp only[ln] at b;have s:a∈ln m n (j+1) h c d->∃e,(k::h)[e]?=Y a.2.1/\(l::c)[e]?=Y a.2.2.1/\(q::d)[e]?=Y a.2.2.2:=λb=>(by obtain⟨e,ao,o,p⟩:=RX (by grind) (by grind) a b;exact⟨e+1,by rw[wS];exact ao,by rw[wS];exact o,by rw[wS];exact p⟩);cases r:k.1.pure
  ·rw[r] at b;simp only[bP,fC] at b;rcases b with rfl|b
   ·exact⟨0,bn,bn,bn⟩
   grind
  grind
theorem RW {d:X} {s:bA}:∀{j:X} {res:bm aG} {cs:en} {hs:es},((ln d s j res cs hs).map (λe=>e.2.2.2)).flatten.Sublist hs.flatten
 |j,[],cs,hs=>by simp[ln]
 |j,b::a,[],hs=>by simp[ln]
 |j,b::a,c::cs,[]=>by simp[ln]
 |j,b::a,c::cs,f::hs=>by have g:=RW (d:=d) (s:=s) (j:=j+1) (res:=a) (cs:=cs) (hs:=hs);simp only[ln];grind
theorem MB (n:cK C st A w I rt fp) (f:∀a,C.B a->B' a) (m:∀id P,aq st.h id=Y P->eX id k=bp->∀a∈fp id,B' a) (c:cP (be I C.B) w st.h rt fp V R) (b:y1 st.h k V P):∃e,R=c0 P.1 e/\aU (be I B') w P.1 e P.2 []:=by
 cases V with
 |val l j=>
  have b:ow l j P.1 P.2:=b;cases c with|val u=>
  exact⟨_,b.st _,b.rep f u ac⟩
 |dh D=>
  obtain⟨ay,y⟩:=b;cases c;grind [qp]
 |ref id x=>
  obtain⟨o,z,l,j,d,t,i⟩:=b;cases c with|ref g r=>
  rw[d] at g;cases g;obtain⟨rfl,v,s,_,q⟩:=n.k9 d t r;exact⟨_,i.st _,i.rep f s (λa p=>m id _ d o a (q a p))⟩
 |_=>exact b.elim
mutual
theorem HH (j:cK C st A w I rt fp) {m:aj5} (g:∀a,C.B a->B' a) (i:∀id J,aq st.h id=Y J->eX id m=bp->∀a∈fp id,B' a):∀{n:ak} {d:ah} {u:d.den},o3 st.h m n d u->∀{t:Value},cP (be I C.B) w st.h rt fp n t->∃e,t=c0 d e/\aU (be I B') w d e u []
 |_,_,_,.base k,_,b=>MB j g i b k
 |_,_,_,.hG G k,_,b=>by
  cases b with|hG E F K f=>
  rename_i l a;obtain⟨e,ao,p⟩:=HH j g i k f;obtain⟨o,y⟩:=pt.one G;have c:=p.len;rw[o] at c;obtain⟨x,rfl⟩:=p4.1 c;rw[y] at ao;have ao:l=x:=ao;subst ao;have D:fy w a 0 [l]:=λr M q=>by
   cases r with
   |zero=>cases q;exact F
   |succ r=>cases q
  exact⟨[.pointer (Y ⟨a,0,bo⟩)],bn,bn,a,0,[l],bn,E,o.symm,D,p⟩
 |_,_,_,.eA c,_,b=>by
  cases b with|eA z f=>
  rename_i s;exact⟨[.func (.func _) #[] s],bn,bn,s.toList,bn,MZ j g i c (zt (by simpa using z) (λH v a ay L=>f H v a ay (by grind)))⟩
theorem MZ (k:cK C st A w I rt fp) {f:aj5} (i:∀b,C.B b->B' b) (j:∀id x,aq st.h id=Y x->eX id f=bp->∀b∈fp id,B' b):∀{m:bm ak} {e:ah} {n:e.den},wL st.h f m e n->∀{a:ey},iM (cP (be I C.B) w st.h rt fp) m a->aU (be I B') w e a n []
 |_,_,_,.nil,a,c=>by
  cases a with
  |nil=>exact⟨bn,bn⟩
  |cons=>exact c.elim
 |_,_,_,.cons v t u,a,c=>by
  cases a with
  |nil=>exact c.elim
  |cons y a=>
   obtain⟨q,r⟩:=c;obtain⟨z,ao,g⟩:=HH k i j t q;have s:=MZ k i j u r;obtain⟨d,p⟩:=pt.one v;have l:=g.len;rw[d] at l;obtain⟨o,rfl⟩:=p4.1 l;rw[p] at ao;have ao:y=o:=ao;subst ao;exact⟨[],[],bn,by rw[d];exact g,by rw[d];exact s⟩
end
def M4 (j:cK C st A w I rt fp) {d:aj5} (g:∀b,C.B b->B' b) (i:∀id c,aq st.h id=Y c->eX id d=bp->∀b∈fp id,B' b):∀{e:bm ak} {l:ey} {k:bm aG},iM (cP (be I C.B) w st.h rt fp) e l->iM (λm c=>o3 st.h d m c.1 c.2) e k->iM (y5 I B' w) k l
 |[],[],[],_,_=>trivial
 |[],_::_,_,a,_=>a.elim
 |_::_,[],_,a,_=>a.elim
 |[],_,_::_,_,a=>a.elim
 |_::_,_,[],_,a=>a.elim
 |_::_,_::_,_::_,a,f=>⟨HH j g i f.1 a.1,M4 j g i a.2 f.2⟩
theorem MD (r:cK C st A w I rt fp) {S:aj5} (E:∀d,C.B d->B' d) (H:∀id q,aq st.h id=Y q->eX id S=bp->∀d∈fp id,B' d):∀{F:bm ak} {t:ey} {args:bm hL},iM (cP (be I C.B) w st.h rt fp) F t->o2 st.h S F args->∃e,mG (y2 I B' w) args t e/\e.flatten=((gw F args).map fp).flatten
 |[],t,args,i,g=>by cases args with
  |nil=>cases t with
   |nil=>exact⟨[],trivial,bn⟩
   |cons=>exact i.elim
  |cons=>exact g.elim
 |x::l,t,[],i,g=>by cases x<;>exact g.elim
 |x::l,[],d::u,i,g=>i.elim
 |av::l,v::t,d::u,i,g=>by
  obtain⟨p,i⟩:=i;obtain⟨a,ad⟩:=g;obtain⟨e,f,V⟩:=MD r E H i ad;cases d with
  |v q=>
   have D:gw (av::l) (.v q::u)=gw l u:=by cases av<;>first|rfl|(rename_i id b;cases b<;>rfl)|(rename_i id b z D;cases b<;>rfl)
   have a:y1 st.h S av q:=(by cases av<;>exact a);exact⟨[]::e,⟨⟨bn,MB r E H p a⟩,f⟩,by grind⟩
  |s U z=>
   have D:gw (av::l) (.s U z::u)=gw l u:=by cases av<;>first|rfl|(rename_i id b;cases b<;>rfl)|(rename_i id b z D;cases b<;>rfl)
   exact⟨[]::e,⟨bn,f⟩,by grind⟩
  |n=>
   cases av with
   |dh Q=>
    obtain rfl:Q=.slice none 0 0:=a;cases p;exact⟨[]::e,⟨⟨bn,bn⟩,f⟩,by grind [gw]⟩
   |ref id b=>cases b<;>exact a.elim
   |_=>exact a.elim
  |c n d1=>
   cases av with
   |eA m z=>
    obtain⟨rfl,a⟩:=a;cases p with|eA cs am=>
    rename_i a4;refine⟨[]::e,⟨⟨bn,a4.toList,bn,M4 r E H (zt aa (λap R d f V=>am ap R d f (by grind))) a⟩,f⟩,by grind [gw]⟩
   |ref id b=>cases b<;>exact a.elim
   |_=>exact a.elim
  |w bl l c1 co d3=>
   cases av with
   |view id b z D=>cases b with
    |nil=>
     obtain⟨k,⟨rfl,rfl⟩,J,a0⟩:=a;cases p with
     |mv=>omega
     |view j y ay dg dl=>
     rename_i d0 d4 c2 K P O L;rw[k] at j;cases j;obtain⟨ao,ci,T⟩:=a5.gz.1 y;simp only[ah.osl.injEq] at ao;subst ao;have N:=(r.tree id _ k).1;have G:rt id=[.slice (Y ⟨K,P,bo⟩) O L]:=T;have an:=N;obtain⟨bx,ce,a3,ds⟩:=an;rw[a3] at G;simp only[h4,aka,ca] at G;have cv:l.length=O:=G.2.1;refine⟨fp id::e,⟨⟨K,P,L,?_,⟨J,aa,aa⟩,?_⟩,f⟩,by grind [aln,gw]⟩
     ·rw[au aa]
     have:=aU.ga (τ:=.osl bl) (B':=B') a0 N;grind
    |cons=>exact a.elim
   |ref id b=>cases b<;>exact a.elim
   |_=>exact a.elim
  |m q d2=>
   cases av with
   |ref id b=>cases b with
    |nil=>
     obtain⟨k,J,_⟩:=a;cases p with|ref j y=>
     rw[k] at j;cases j;obtain⟨rfl,rfl,rfl⟩:=a5.gz.1 y;exact⟨fp id::e,⟨⟨rt id,bn,(r.tree id _ k).1.ga J⟩,f⟩,by grind [aln,gw]⟩
    |cons=>exact a.elim
   |_=>exact a.elim
  |o q=>
   cases av with
   |ref id b=>cases b with
    |nil=>
     have k:aq st.h id=Y q:=a;cases p with|ref j y=>
     rw[k] at j;cases j;obtain⟨rfl,rfl,rfl⟩:=a5.gz.1 y;refine⟨fp id::e,⟨⟨rt id,bn,(r.tree id _ k).1.mono (λm d M=>⟨?_,c8.refl w d⟩) (λd _=>c8.refl w d)⟩,f⟩,by grind [aln,gw]⟩;cases m
     ·exact M
     exact M.imp (λg=>g) (E d)
    |cons=>exact a.elim
   |dh Q=>
    obtain⟨rfl,bs,rfl⟩:=a;cases p;exact⟨[]::e,⟨⟨[.slice bo 0 0],bn,bo,0,bn,.inl ⟨bn,bn,bn,bn⟩⟩,f⟩,by grind [gw]⟩
   |_=>exact a.elim
end
end
end Go.jy
end
