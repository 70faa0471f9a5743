/-
  Parts of the proof: Fw1, Fw2, Fw3, Fw4, Fw5, Fw6, Fw7, Fw8, Fw40, Fw41, Fw9, Fw10, Fw11, Fw12, Fw13, Fw14, Fw15, Fw16, Fw17, Fw18, Fw19, Fw20: the framework (Fw), pure forms (Dn), plain laws (Pl, Th), calls of functions (Ok).
-/
import Derived.Laws.AppendOwn
import Derived.ArgAppend
import Derived.Laws.IdiomCopy
import Derived.Laws.Cells
import Derived.Laws.MakeOwn
import Derived.Calls
import Derived.Orders
import Derived.Laws.Entries
import Derived.Maps.RangeRun

set_option linter.all false
set_option maxHeartbeats 1000000
open Go renaming TypeId->bH,Operand->bO,World->bF,MapEntry->cp,Exit->b8,IntKind->cn,undef->bY,Program->b2,Field->amS,sizeOf->anm,typeInfo->am1,run_underlying->cd,Oper->bU,execOp->bP,eqGuard->anx,binOp->amI,Addr->ck,resolve->anf,builtin->anz,asIntOf->anN,madeCells->apP,zeroValue->amN,newRow->ang,Code->cx
open _root_ renaming Nat->X,Array->bW,DecidableEq->apL,List->bp,Int->Z,Bool->bD,Option->bv,Unit->bz,rfl->bq,and_true->cf,False->b7,if_true->cq,congrArg->b9,cond_false->bQ,cond_true->bI,beq_self_eq_true->am2,decide_eq_true->amA,decide_eq_false->amT,decide_eq_true_eq->amV,dif_pos->anS
open Option renaming some->Y,none->br,isSome_none->apT,isSome_some->ao6
open Bool renaming true->bt,false->bu
open Go.World renaming cell?_of_block->aqY,frozen?_of_block->aqZ,cell?->anR,frozen?->ao5,setCells->apc,setCell->ara,cell?_setCells_in->aoD,cell?_setCells_out->apd,frozen?_setCells->apY
open Go.MapEntry renaming mk->aoZ
open Go.Value renaming oneCell'->amQ,int->amJ,map->an8,agg->arb
open List renaming mem_cons_of_mem->an2,mem_flatten->an3,mem_of_getElem?->aot,getElem?_take->ao0,count_cons->ao1,take_take->aq0,all_eq_true->anK,getElem?_eq_some_iff->anL,append_eq_nil_iff->apN,replicate->bM,range->bK,pairwise_cons->aoz,filter_eq_self->an5,map_congr_left->amU,filter_map->apS,getElem?_inj->ao7,getElem?_toArray->apW,map_toArray->ao9,foldlM_cons->aq6,any_eq_true->aq7,getElem?_eq_getElem->bZ,mem_append_right->ape,getElem_mem->ca,flatten_cons->anU
open Go.Value.pointer renaming injEq->anJ
open Go.Addr.mk renaming injEq->amR
open Go.Value.slice renaming injEq->amE
open Iff renaming rfl->aou
open Nat renaming min_self->aq1,beq->bL,eq_of_beq_eq_true->anl,ble->b5,add_comm->anO,blt->cg,beq_refl->an9,div_lt_iff_lt_mul->apa,mod_lt->anT,div_add_mod->apb
open Option.some renaming inj->am0
open ByteArray renaming empty->ao2
open Go.Sem renaming run_bind->b0,run_pure->cz
open Go.Result renaming andThen_ok->b4
open Go.Addr renaming add_lit->anw
open Go.Oper renaming wp->amH
open BitVec renaming ofInt->cl
open Decidable renaming decide->bw
open Go.Op renaming equalIn->anM,equal->aov,maxDepth->aow,unary->apX
open Go.Builtin renaming len_->apM,delete_->apV,append_->aoB,firstCells->aq8,lenOf->aq9,zeroCells->aoC
open Go.Instr renaming loadAt->aq2,sureAddr->an4,sliceBounds->aox,sliceBound->apO,fill->aq3,box->ao3,findNow->an6,sameNow->apR,findKey->aoA,checkKey->aq4,mapUpdate->ann,keyThatStays->an7,sameBits->apU,lookup->ao8
open Int renaming natCast_mul->anP
open Array renaming map->ao4,mapM_eq_mapM_toList->apQ,eraseIdxIfInBounds->aq5,getD_eq_getD_getElem?->apZ
open List.Pairwise renaming nil->aoy,cons->ash
open Pure renaming pure->anQ
open Go.Region renaming wanted->apf
theorem aa{p:Prop}(h:p:=by omega):p:=h
theorem ab{p:Prop}(h:p:=by decide):p:=h
theorem ac{p:Prop}(h:p:=by simp):p:=h
theorem ae{p:Prop}(h:p:=by grind):p:=h
theorem af{p:Prop}(h:p:=by rfl):p:=h
theorem ag{p:Prop}(h:p:=by simp_all):p:=h
abbrev aw:=@if_neg
abbrev ay:=@if_pos
abbrev aM:=@Option.bind_some
abbrev bf:=@Nat.le_refl
abbrev cH:=@List.getElem?_eq_getElem
abbrev cJ:=@Bool.and_eq_true
abbrev cT:=@List.getElem_mem
abbrev c6:=@Nat.lt_or_ge
abbrev eE:=@Nat.le_trans
abbrev eL:=@List.length_map
abbrev eT:=@List.mem_map
abbrev eU:=@Nat.zero_le
abbrev e3:=@Option.bind_eq_some_iff
abbrev e9:=@Option.some.injEq
abbrev fH:=@List.mem_cons
abbrev fJ:=@Nat.eq_of_beq_eq_true
abbrev fQ:=@Option.map_eq_some_iff
abbrev fV:=@Int.toNat_natCast
abbrev gd:=@Int.eq_ofNat_of_zero_le
abbrev gn:=@Option.some.inj
abbrev gH:=@List.mem_cons_of_mem
abbrev gI:=@List.mem_singleton
abbrev gJ:=@List.take_of_length_le
abbrev gN:=@List.mem_range
abbrev gT:=@Int.le_of_lt
abbrev ha:=@Nat.le_of_ble_eq_true
abbrev hk:=@List.all_eq_true
abbrev hl:=@List.mem_append
abbrev hz:=@List.length_take
abbrev hA:=@List.map_cons
abbrev hM:=@List.length_append
abbrev hN:=@List.mem_iff_getElem
abbrev hV:=@List.mem_filter
abbrev hW:=@Nat.mul_le_mul_right
abbrev h3:=@List.nil_append
abbrev ij:=@List.cons.injEq
abbrev ik:=@List.take_length
abbrev iv:=@List.getElem?_eq_some_iff
abbrev iw:=@List.pairwise_iff_getElem
abbrev iI:=@Bool.not_true
abbrev iJ:=@List.ext_getElem?
abbrev iK:=@List.length_cons
abbrev iL:=@Nat.one_mul
abbrev iN:=@Prod.mk.injEq
abbrev iY:=@List.map_congr_left
abbrev iZ:=@Nat.min_eq_left
abbrev ji:=@List.getD_eq_getElem?_getD
abbrev ju:=@Int.mul_assoc
abbrev jv:=@List.getElem?_map
abbrev jQ:=@List.mem_cons_self
abbrev jR:=@List.nodup_append
abbrev jS:=@Nat.lt_of_lt_of_le
abbrev jT:=@Option.map_some
abbrev j4:=@Bool.or_eq_true
abbrev j6:=@List.take_add_one
abbrev kj:=@List.range_succ
abbrev kk:=@Nat.pow_add
abbrev kA:=@List.map_append
abbrev kB:=@List.mem_append_right
abbrev kC:=@List.take_append_drop
abbrev kD:=@Nat.two_pow_pos
abbrev kR:=@List.cons_append
abbrev kS:=@List.nodup_cons
abbrev kT:=@Rat.mul_nonneg
abbrev kU:=@Rat.mul_pos
abbrev la:=@Nat.add_mul
abbrev lB:=@Int.lt_or_le
abbrev lC:=@List.append_assoc
abbrev l0:=@Int.pow_pos
abbrev l3:=@Nat.zero_add
abbrev mv:=@Int.mul_comm
abbrev mw:=@Int.mul_le_mul_of_nonneg_left
abbrev my:=@List.flatten_cons
abbrev mA:=@List.length_filter_le
abbrev mB:=@List.mem_flatten
abbrev m3:=@Int.emod_add_mul_ediv
abbrev m4:=@Nat.add_zero
abbrev nA:=@Int.mul_nonneg
abbrev nB:=@Int.pow_add
abbrev nC:=@List.drop_zero
abbrev nD:=@List.filter_cons
abbrev nE:=@List.filter_eq_self
abbrev nF:=@List.pairwise_cons
abbrev nG:=@Nat.mul_comm
abbrev n4:=@Int.zero_mul
abbrev n5:=@List.flatMap_append
abbrev n6:=@List.pairwise_map
abbrev n8:=@Nat.mul_le_mul
abbrev oK:=@Bool.not_false
abbrev oP:=@Int.ediv_nonneg
abbrev oQ:=@Int.mul_le_mul_of_nonneg_right
abbrev oS:=@List.flatMap_cons
abbrev oT:=@List.length_drop
abbrev oU:=@List.length_range
abbrev oV:=@List.length_singleton
abbrev oW:=@List.mem_append_left
abbrev o0:=@Rat.intCast_mul
abbrev pD:=@Int.emod_nonneg
abbrev pE:=@Int.natAbs_mul
abbrev pF:=@Int.natCast_mul
abbrev pG:=@List.append_nil
abbrev pH:=@List.getElem_map
abbrev pI:=@Nat.not_lt_zero
abbrev qt:=@List.any_eq_true
abbrev qu:=@List.drop_eq_nil_of_le
abbrev qv:=@List.eq_nil_of_length_eq_zero
abbrev qw:=@List.filter_append
abbrev qx:=@List.filter_congr
abbrev qy:=@List.getElem?_append_left
abbrev qz:=@List.getElem?_append_right
abbrev qA:=@List.getElem?_drop
abbrev qB:=@List.length_eq_one_iff
abbrev qC:=@List.length_nil
abbrev qD:=@List.map_map
abbrev qE:=@List.mem_of_getElem?
abbrev rK:=@Array.mem_append_right
abbrev rO:=@Int.ediv_eq_zero_of_lt
abbrev rP:=@Int.emod_lt_of_pos
abbrev rQ:=@List.Pairwise.imp_of_mem
abbrev rR:=@List.getElem?_cons_zero
abbrev rS:=@List.getElem?_eq_none
abbrev rT:=@List.length_replicate
abbrev rU:=@List.nodup_range
abbrev rW:=@Nat.add_assoc
abbrev rX:=@Nat.eq_zero_or_pos
abbrev rY:=@Nat.lt_irrefl
abbrev s7:=@Array.getElem?_eq_some_iff
abbrev s8:=@Bool.and_eq_true_iff
abbrev tb:=@Int.mul_pos
abbrev tc:=@List.all_cons
abbrev td:=@List.drop_drop
abbrev te:=@List.getElem?_take_of_lt
abbrev tg:=@List.map_nil
abbrev th:=@Nat.add_sub_cancel_left
abbrev tj:=@Nat.mul_assoc
abbrev tk:=@Rat.le_of_lt
abbrev tm:=@Rat.mul_eq_zero
abbrev uY:=@Bool.not_eq_true'
abbrev u2:=@Int.ediv_ediv_of_nonneg
abbrev u3:=@Int.ediv_le_self
abbrev u4:=@Int.ediv_lt_of_lt_mul
abbrev u5:=@Int.emod_eq_of_lt
abbrev u6:=@List.any_eq_false
abbrev u7:=@List.count_append
abbrev u9:=@List.drop_append_of_le_length
abbrev vb:=@List.drop_of_length_le
abbrev vc:=@List.filter_sublist
abbrev vd:=@List.getElem_inj
abbrev ve:=@List.mem_of_mem_take
abbrev vf:=@List.perm_iff_count
abbrev vg:=@List.size_toArray
abbrev vh:=@List.take_append_of_le_length
abbrev vi:=@Nat.lt_trichotomy
abbrev vj:=@Nat.pow_le_pow_right
abbrev vk:=@Nat.pow_succ
abbrev vl:=@Nat.sub_self
abbrev xa:=@Array.replicate_succ
abbrev xb:=@Array.replicate_zero
abbrev xc:=@Bool.eq_iff_iff
abbrev xi:=@Int.add_mul_ediv_left
abbrev xj:=@Int.mul_lt_mul_of_pos_right
abbrev xk:=@Int.natAbs_neg
abbrev xl:=@List.append_of_mem
abbrev xm:=@List.append_toArray
abbrev xn:=@List.getElem?_cons_succ
abbrev xo:=@List.not_mem_nil
abbrev xp:=@List.push_toArray
abbrev xu:=@Nat.lt_succ_self
abbrev xw:=@Option.getD_some
abbrev zH:=@Int.add_mul_emod_self_left
abbrev zI:=@Int.mul_eq_zero
abbrev zJ:=@Int.natAbs_add_le
abbrev zK:=@List.filter_filter
abbrev zL:=@List.flatten_append
abbrev zM:=@List.getElem?_range
abbrev zN:=@List.getElem?_set
abbrev zO:=@List.length_set
abbrev zP:=@List.map_singleton
abbrev zQ:=@List.mem_toArray
abbrev zR:=@List.singleton_append
abbrev zT:=@Nat.div_add_mod
abbrev zX:=@Rat.intCast_pos
abbrev CQ:=@Array.getElem?_eq_getElem
abbrev CR:=@Array.getElem?_toList
abbrev CS:=@Bool.or_eq_true_iff
abbrev CZ:=@Int.mul_ediv_cancel
abbrev C0:=@List.getElem_set_ne
abbrev C1:=@List.idxOf_lt_length_iff
abbrev C2:=@List.length_pos_iff
abbrev C3:=@List.mem_take_iff_getElem
abbrev HD:=@Int.mul_eq_mul_right_iff
abbrev HE:=@Int.tdiv_eq_ediv_of_nonneg
abbrev HF:=@Int.tmod_eq_emod_of_nonneg
abbrev HJ:=@List.drop_eq_getElem_cons
abbrev HK:=@List.filter_cons_of_neg
abbrev HL:=@List.filter_cons_of_pos
abbrev HM:=@List.mem_of_find?_eq_some
abbrev HO:=@Option.isSome_iff_exists
abbrev HT:=@Rat.mul_pos_iff_of_pos_left
abbrev dn:=List (Int×(Int×(List Int×(Int×Unit))))×(Option (List (Int×(Int×(List Int×(Int×Unit)))))×Option (List Int)×Unit)×Unit
abbrev dq:=List (Int×(Int×(List Int×(Int×Unit))))×(Option Int×Unit)×Unit
abbrev dr:=(List (List Int)×Unit)×(List (List Int)×Unit)×List Int×Unit
abbrev dt:=(Int×List Int×Unit)⊕((List Int×Unit)⊕(List Int×Bool×Unit))
abbrev du:=(List Int×Unit)⊕((Int×List Int×Unit)⊕(Unit⊕(Int×Unit)))
abbrev dv:=Int×(List (List Int)×Unit)×(List (List Int)×Unit)×Unit
abbrev dw:=(List (List Int)×Unit)×(List (List Int)×Unit)×Unit
abbrev dx:=List Int×(Option (List (List Int)×Unit)×Unit)×Unit
abbrev dy:=Int×(List (List Int)×Unit)×List (List Bool)×Unit
abbrev dz:=(List (List Int)×Unit)×List (List Bool)×Unit
abbrev dA:=Int×(List (List Bool)×(List Bool×Unit))×Unit
abbrev dB:=(List (List Bool)×(List Bool×Unit))×Unit
abbrev dC:=(Int×List Bool×Unit)⊕(Unit⊕(Bool×Unit))
abbrev dD:=List (Int×(Int×(List Int×(Int×Unit))))
abbrev dF:=(List (List Int)×Unit)×List Int×Unit
abbrev dG:=(List Int×Unit)⊕(List Int×Bool×Unit)
abbrev dH:=Unit⊕((Int×Unit)⊕(Unit⊕(Int×Unit)))
abbrev dI:=(Int×List Int×Unit)⊕(List Int×Unit)
abbrev dK:=(Int×Int×Unit)⊕(Unit⊕(Bool×Unit))
abbrev dL:=List (List Bool)×(List Bool×Unit)
abbrev dM:=(List (List Int)×Unit)×Int×Unit
abbrev dN:=Int×(Int×(List Int×(Int×Unit)))
abbrev dO:=(Int×Unit)⊕(Unit⊕(Bool×Unit))
abbrev dP:=(Int×Unit)⊕(Unit⊕(Int×Unit))
abbrev dQ:=(List (List Int)×Unit)×Unit
abbrev dR:=Int×List (List Bool)×Unit
abbrev dS:=Int×(List Int×(Int×Unit))
abbrev dT:=List (List Bool)×Unit
abbrev dU:=List (List Int)×Unit
abbrev dV:=Int×Int×Int×Int×Unit
abbrev dY:=List Int×Bool×Unit
abbrev dZ:=Int×List Bool×Unit
abbrev ea:=List Int×Int×Unit
abbrev eb:=Int×List Int×Unit
abbrev ec:=Nat×Nat×List Nat
abbrev ed:=Unit⊕(Bool×Unit)
abbrev ee:=Int×Int×Int×Unit
abbrev ef:=Unit⊕(Int×Unit)
abbrev eg:=Option Int×Unit
abbrev eh:=List Bool×Unit
abbrev ei:=Int×Bool×Unit
abbrev ej:=List Int×Unit
abbrev en:=Bool×Int×Unit
abbrev eo:=Int×Int×Unit
abbrev ep:=Bool×Unit
abbrev er:=Int×Unit
abbrev es:=Nat×Nat
abbrev et:=List (List Go.Value)
abbrev eu:=Option (List Int)
abbrev ev:=List (Option Int)
abbrev ew:=List (List Bool)
abbrev ey:=List (List Nat)
abbrev ez:=List (List Int)
abbrev eA:=Option Go.Operand
abbrev eB:=Array Go.Value
abbrev eC:=List Go.TypeId
abbrev amo:=List Go.Value
abbrev amp:=Option Int
abbrev amq:=Option Nat
abbrev amr:=List Bool
abbrev ams:=Option ep
abbrev amt:=Option er
abbrev amu:=List Nat
abbrev amv:=List Int
abbrev amw:=List es
noncomputable section
namespace Go.j5
variable{a w R:bH}{b h V:X}{c g:bO}{f l:bF}{i:X->Prop}{j:amu}{n:bW cp}{o:X->amo}{p:X->amu}{r:b8->Act->bF->Prop}{t:cn}{u:amo}{x y:Type}{N:eB}{P:bW (X×bO)}{Q:Value}
inductive eM where
 |bm
 |cX
 deriving apL
variable{e:eM->X->Prop}
inductive ak where
 |int (k:cn)
 |bool
 |str
 |bc (m:eM) (t:ak)
 |ptr (m:eM) (t:ak)
 |osl (t:ak)
 |optr (t:ak)
 |st (t:ak)
 |pr (a b:ak)
 |nil
 |eO
 |mp (t:ak)
 |fd (m:eM) (t:ak)
 |fn (n:X) (t:ak)
 deriving apL
variable{d q:ak}{k:bp (X×ak)}
def ak.size:ak->X
 |.pr a b=>a.size+b.size
 |.st c=>c.size
 |.nil|.eO=>0
 |_=>1
@[reducible] def ak.den:ak->Type
 |.int _=>Z
 |.bool=>bD
 |.str=>ByteArray
 |.bc _ a=>bp a.den
 |.ptr _ a=>bv a.den
 |.osl a=>bp a.den
 |.optr a|.st a=>a.den
 |.pr b c=>b.den×c.den
 |.nil|.eO=>bz
 |.mp a|.fd _ a=>bv (bp (Z×a.den)×X)
 |.fn _ a=>a.den
def k9 {d:Type} (b:bp (Z×X×d)) (c:bp (Z×d)) (g:X):Prop:=
 c.Pairwise (λe f=>e.1<f.1)/\(b.map λa=>(a.1,a.2.2)).Perm c/\(b.map λa=>a.2.1).Nodup/\∀a∈b,a.2.1<g
def c9:ak->amo->Value
 |.st _,cs=>.agg cs.toArray
 |_,cs=>cs.headD bY
def fG (e:bF) (c d:X) (cs:amo):Prop:=∀a b,cs[a]?=Y b->e.cell? ⟨c,d+a,br⟩=Y b
def jf (c:bF) (b e d:X):Prop:=∀a,e<=a->a<d->(c.cell? ⟨b,a,br⟩).isSome=bt/\c.frozen? ⟨b,a,br⟩=bu
def jF (d:bF) (a:X):bv (bW cp×X):=match d.heap[a]? with
 |some (.map c b)=>Y (c,b)
 |_=>br
def dm (c d:bF) (a:X):Prop:=(∀b,d.cell? ⟨a,b,br⟩=c.cell? ⟨a,b,br⟩/\d.frozen? ⟨a,b,br⟩=c.frozen? ⟨a,b,br⟩)/\jF d a=jF c a
def dm.refl (a:bF) (b:X):dm a a b:=⟨λ_=>⟨bq,bq⟩,bq⟩
theorem dm.of_heap (c:l.heap[b]?=f.heap[b]?):dm f l b:=
 ⟨λd=>⟨aqY (a:=⟨b,d,br⟩) c,aqZ (a:=⟨b,d,br⟩) c⟩,by grind [jF]⟩
def lA (j k:bF) (d:X):Prop:=∀f b,jF j d=Y (f,b)->∃g e,jF k d=Y (g,e)/\b<=e/\∀(h:X) (a:cp),g[h]?=Y a->a.born<b->∃(i:X) (c:cp),f[i]?=Y c/\c.key=a.key/\c.born=a.born
def lA.of_eq (e:jF l b=jF f b):lA f l b:=
 λd a h=>⟨d,a,e.trans h,bf _,λi c g _=>⟨i,c,g,bq,bq⟩⟩
def lA.refl (a:bF) (b:X):lA a a b:=.of_eq bq
def lA.of_heap {b c:bF} {a:X} (d:c.heap[a]?=b.heap[a]?):lA b c a:=.of_eq (dm.of_heap d).2
theorem lA.trans {a:bF} (h:lA f l b) (i:lA l a b):lA f a b:=λe c k=>by obtain⟨g,d,j,o,p⟩:=h e c k;obtain⟨n,m,q,r,s⟩:=i g d j;grind
def fG.sm {cs:amo} (a:fG f b h cs) (d:dm f l b):fG l b h cs:=
 λe g c=>by rw[(d.1 _).1];exact a e g c
def jf.sm (c:jf f b V h) (a:dm f l b):jf l b V h:=
 λg d e=>by rw[(a.1 _).1,(a.1 _).2];exact c g d e
def aW (h:eM->X->Prop) (e:bF):(A:ak)->amo->A.den->amu->Prop
 |.int y,cs,u,c=>c=[]/\cs=[.int y u]
 |.bool,cs,b,c=>c=[]/\cs=[.bool b]
 |.str,cs,z,c=>c=[]/\cs=[.string z]
 |.bc r a,cs,k,c=>c=[]/\∃j m,cs=[.slice j k.length m]/\k.length<=m/\(j=br->m=0)/\(k=[]\/∃b g,j=Y ⟨b,g,br⟩/\h r b/\∀i f,k[i]?=Y f->∃d,d.length=a.size/\fG e b (g+i*a.size) d/\aW h e a d f [])
 |.ptr r a,cs,f,c=>c=[]/\match f with
  |none=>cs=[.pointer br]
  |some v=>∃b g d,cs=[.pointer (Y ⟨b,g,br⟩)]/\h r b/\d.length=a.size/\fG e b g d/\aW h e a d v []
 |.osl a,cs,k,c=>∃j m,cs=[.slice j k.length m]/\((
   j=br/\k=[]/\m=0/\c=[])\/∃(b g:X) (s:ey),j=Y ⟨b,g,br⟩/\c=b::s.flatten/\s.length=k.length/\k.length<=m/\
   jf e b g (g+m*a.size)/\∀i f q,k[i]?=Y f->s[i]?=Y q->∃d,d.length=a.size/\fG e b (g+i*a.size) d/\aW h e a d f q)
 |.optr a,cs,v,c=>∃b g q d,cs=[.pointer (Y ⟨b,g,br⟩)]/\c=b::q/\d.length=a.size/\fG e b g d/\jf e b g (g+a.size)/\aW h e a d v q
 |.st a,cs,f,c=>aW h e a cs f c
 |.pr j b,cs,f,c=>∃w f2,c=w++f2/\aW h e j (cs.take j.size) f.1 w/\aW h e b (cs.drop j.size) f.2 f2
 |.nil,cs,_,c=>c=[]/\cs=[]
 |.eO,cs,_,_=>cs=[]
 |.mp a,cs,f,c=>match f with
  |none=>c=[]/\cs=[.map br]
  |some (t,p)=>∃(b:X) (o:bW cp) (n:bp (Z×X×a.den)),cs=[.map (Y b)]/\c=[b]/\k9 n t p/\jF e b=Y (o,p)/\o.size=n.length/\∀(i:X) (l:Z×X×a.den),n[i]?=Y l->∃d:amo,d.length=a.size/\o[i]?=Y (aoZ (.int .i64 l.1) (c9 a d) l.2.1)/\aW h e a d l.2.2 []
 |.fd r a,cs,f,c=>match f with
  |none=>c=[]/\cs=[.map br]
  |some (t,p)=>∃(b:X) (o:bW cp) (n:bp (Z×X×a.den)),cs=[.map (Y b)]/\c=[]/\k9 n t p/\h r b/\jF e b=Y (o,p)/\o.size=n.length/\∀(i:X) (l:Z×X×a.den),n[i]?=Y l->∃d:amo,d.length=a.size/\o[i]?=Y (aoZ (.int .i64 l.1) (c9 a d) l.2.1)/\aW h e a d l.2.2 []
 |.fn u a,cs,f,c=>c=[]/\∃x:amo,cs=[.func (.func u) #[] x.toArray]/\aW h e a x f []
theorem aW.len {h:eM->X->Prop} {q:bF}:∀{τ:ak} {cs:amo} {b:τ.den} {k:amu},aW h q τ cs b k->cs.length=τ.size
 |.int _,_,_,_,a=>by rw[a.2];rfl
 |.bool,_,_,_,a=>by rw[a.2];rfl
 |.str,_,_,_,a=>by rw[a.2];rfl
 |.bc _ _,_,_,_,a=>by obtain⟨_,c,f,a,_⟩:=a;rw[a];rfl
 |.ptr _ _,_,b,_,a=>by
  obtain⟨_,a⟩:=a;cases b with
  |none=>simp only at a;rw[a];rfl
  |some w=>obtain⟨d,u,i,a,_⟩:=a;rw[a];rfl
 |.osl _,_,_,_,a=>by obtain⟨c,f,a,_⟩:=a;rw[a];rfl
 |.optr _,_,_,_,a=>by obtain⟨c,f,r,i,a,_⟩:=a;rw[a];rfl
 |.st e,_,_,_,a=>aW.len (τ:=e) a
 |.pr c d,cs,_,_,a=>by obtain⟨s,f2,_,l,m⟩:=a;have n:=aW.len (τ:=c) l;have o:=aW.len (τ:=d) m;simp only[hz,oT] at n o;show cs.length=c.size+d.size;omega
 |.nil,_,_,_,a=>by rw[a.2];rfl
 |.eO,_,_,_,a=>by rw[show _=[] from a];rfl
 |.mp e,_,b,_,a=>by
  cases b with
  |none=>rw[a.2];rfl
  |some p=>obtain⟨d,j,g,a,_⟩:=a;rw[a];rfl
 |.fd t e,_,b,_,a=>by
  cases b with
  |none=>rw[a.2];rfl
  |some p=>obtain⟨d,j,g,a,_⟩:=a;rw[a];rfl
 |.fn _ _,_,_,_,a=>by obtain⟨_,v,a,_⟩:=a;rw[a];rfl
theorem aW.one {j:eM->X->Prop} {r:bF}:∀{τ:ak} {cs:amo} {c:τ.den} {l:amu},aW j r τ cs c l->∀e∈cs,e.oneCell'=bt
 |.int _,_,_,_,a=>by rw[a.2];simp[amQ]
 |.bool,_,_,_,a=>by rw[a.2];simp[amQ]
 |.str,_,_,_,a=>by rw[a.2];simp[amQ]
 |.bc _ _,_,_,_,a=>by obtain⟨_,d,h,a,_⟩:=a;grind [amQ]
 |.ptr _ _,_,c,_,a=>by obtain⟨_,a⟩:=a;grind [amQ]
 |.osl _,_,_,_,a=>by obtain⟨d,h,a,_⟩:=a;grind [amQ]
 |.optr _,_,_,_,a=>by obtain⟨d,h,f,s,a,_⟩:=a;grind [amQ]
 |.st t,_,_,_,a=>aW.one (τ:=t) a
 |.pr d g,cs,_,_,a=>by
  obtain⟨u,f2,_,m,n⟩:=a;have o:=aW.one (τ:=d) m;have p:=aW.one (τ:=g) n;intro e b;rw[<-kC d.size cs] at b;rcases hl.1 b with b|b
  ·exact o e b
  exact p e b
 |.nil,_,_,_,a=>by rw[a.2];simp
 |.eO,_,_,_,a=>by rw[show _=[] from a];simp
 |.mp t,_,c,_,a=>by
  cases c with
  |none=>rw[a.2];simp[amQ]
  |some q=>obtain⟨g,k,i,a,_⟩:=a;grind [amQ]
 |.fd v t,_,c,_,a=>by
  cases c with
  |none=>rw[a.2];simp[amQ]
  |some q=>obtain⟨g,k,i,a,_⟩:=a;grind [amQ]
 |.fn _ _,_,_,_,a=>by obtain⟨_,w,a,_⟩:=a;grind [amQ]
theorem aW.mono {J K:eM->X->Prop} {A B:bF} (d:∀j b,J j b->K j b/\dm A B b):∀{τ:ak} {cs:amo} {g:τ.den} {q:amu},aW J A τ cs g q->(∀b∈q,dm A B b)->aW K B τ cs g q
 |.int _,_,_,_,a,_|.bool,_,_,_,a,_|.str,_,_,_,a,_=>a
 |.bc j m,_,S,_,a,_=>by obtain⟨x,w,D,e,c,k,l⟩:=a;refine⟨x,w,D,e,c,k,l.imp id ?_⟩;rintro⟨b,v,H,i,I⟩;refine⟨b,v,H,(d j b i).1,λu g t=>?_⟩;obtain⟨h,o,p,d3⟩:=I u g t;exact⟨h,o,p.sm (d j b i).2,aW.mono d d3 ac⟩
 |.ptr j m,_,g,_,a,_=>by
  obtain⟨x,a⟩:=a;refine⟨x,?_⟩;cases g with
  |none=>exact a
  |some U=>
   obtain⟨b,v,h,e,c,k,l,r⟩:=a;exact⟨b,v,h,e,(d j b c).1,k,l.sm (d j b c).2,aW.mono d r ac⟩
 |.osl m,_,S,q,a,f=>by obtain⟨w,D,e,c⟩:=a;refine⟨w,D,e,c.imp id ?_⟩;rintro⟨b,v,M,H,y,Q,s,P,I⟩;have i:dm A B b:=f b ae;refine⟨b,v,M,H,y,Q,s,P.sm i,λu g F t O=>?_⟩;obtain⟨h,o,p,d3⟩:=I u g F t O;refine⟨h,o,p.sm i,aW.mono d d3 (λn s=>f n ?_)⟩;grind [an2,an3,aot]
 |.optr m,_,_,_,a,f=>by obtain⟨b,v,F,h,e,c,k,l,r,N⟩:=a;have i:dm A B b:=f b ae;exact⟨b,v,F,h,e,c,k,l.sm i,r.sm i,aW.mono d N (λn s=>f n ae)⟩
 |.st m,_,_,_,a,f=>aW.mono (τ:=m) d a f
 |.pr w b,cs,_,_,a,f=>by obtain⟨L,f2,y,e,c⟩:=a;exact⟨L,f2,y,aW.mono (τ:=w) d e (λn s=>f n (by rw[y];exact oW _ s)),aW.mono (τ:=b) d c (λn s=>f n (by rw[y];exact kB _ s))⟩
 |.nil,_,_,_,a,_|.eO,_,_,_,a,_=>a
 |.mp m,_,g,q,a,f=>by
  cases g with
  |none=>exact a
  |some z=>
   obtain⟨b,E,C,e,c,G,k,l,r⟩:=a;refine⟨b,E,C,e,c,G,(f b (by rw[c];simp)).2.trans k,l,λu z t=>?_⟩;obtain⟨h,o,p,d3⟩:=r u z t;exact⟨h,o,p,aW.mono d d3 ac⟩
 |.fd j m,_,g,q,a,f=>by
  cases g with
  |none=>exact a
  |some z=>
   obtain⟨b,E,C,e,c,G,i,k,l,r⟩:=a;refine⟨b,E,C,e,c,G,(d j b i).1,(d j b i).2.2.trans k,l,λu z t=>?_⟩;obtain⟨h,o,p,d3⟩:=r u z t;exact⟨h,o,p,aW.mono d d3 ac⟩
 |.fn T m,_,g,q,a,_=>by obtain⟨x,R,e,c⟩:=a;exact⟨x,R,e,aW.mono d c ac⟩
def ak.lr:ak->bD
 |.eO=>bu
 |.bc _ a|.ptr _ a|.osl a|.optr a|.st a|.mp a|.fd _ a|.fn _ a=>a.lr
 |.pr b c=>b.lr&&c.lr
 |_=>bt
theorem aW.uniq {q:eM->X->Prop} {w:bF}:∀{τ:ak} {cs:amo} {e k:τ.den} {h t:amu},τ.lr=bt->aW q w τ cs e h->aW q w τ cs k t->h=t
 |.int _,_,_,_,_,_,_,a,b|.bool,_,_,_,_,_,_,a,b|.str,_,_,_,_,_,_,a,b|.bc _ _,_,_,_,_,_,_,a,b|.ptr _ _,_,_,_,_,_,_,a,b|.nil,_,_,_,_,_,_,a,b|.fn _ _,_,_,_,_,_,_,a,b=>a.1.trans b.1.symm
 |.eO,_,_,_,_,_,d,_,_=>by cases d
 |.fd E g,cs,e,k,h,t,_,a,b=>by
  have an:∀{e:(ak.fd E g).den} {h:amu},aW q w (.fd E g) cs e h->h=[]:=λ{e h} a=>by
   cases e with
   |none=>exact a.1
   |some O=>obtain⟨l,B,x,_,m,_⟩:=a;exact m
  grind
 |.mp g,_,e,k,_,_,_,a,b=>by
  cases e with
  |none=>
   cases k with
   |none=>exact a.1.trans b.1.symm
   |some P=>
    obtain⟨l,B,x,f,_⟩:=b;have:=a.2.symm.trans f;grind
  |some O=>
   obtain⟨l,B,x,f,m,_⟩:=a;cases k with
   |none=>
    have:=f.symm.trans b.2;grind
   |some P=>
    obtain⟨z,ap,S,i,C,_⟩:=b;grind
 |.st g,_,_,_,_,_,d,a,b=>aW.uniq (τ:=g) d a b
 |.pr y l,_,_,_,_,_,d,a,b=>by simp only[ak.lr,cJ] at d;obtain⟨a0,f2,rfl,f,m⟩:=a;obtain⟨a3,a4,rfl,D,u⟩:=b;rw[aW.uniq (τ:=y) d.1 f D,aW.uniq (τ:=l) d.2 m u]
 |.optr g,_,_,_,_,_,d,a,b=>by
  obtain⟨l,M,h,j,f,rfl,D,u,_,J⟩:=a;obtain⟨z,N,av,n,i,rfl,bl,I,_,K⟩:=b;rw[f] at i;simp only[ij,anJ,e9,amR,cf] at i;obtain⟨rfl,rfl⟩:=i;obtain rfl:j=n:=by
   apply iJ;intro c;rcases c6 c j.length with v|v
   ·have aB:=u c j[c] ae;have Q:=I c (n[c]'(by omega)) ac
    grind
   grind
  rw[aW.uniq (τ:=g) d J K]
 |.osl g,_,e,k,_,_,d,a,b=>by
  obtain⟨y,U,f,m⟩:=a;obtain⟨T,V,i,C⟩:=b;rw[f] at i;simp only[ij,amE,cf] at i;obtain⟨rfl,bs,rfl⟩:=i;rcases m with⟨rfl,rfl,rfl,rfl⟩|⟨l,M,r,rfl,rfl,aB,Q,ci,bj⟩
  ·grind
  rcases C with⟨p,_⟩|⟨z,N,s,p,rfl,bx,ce,co,R⟩
  ·cases p
  simp only[e9,amR,cf] at p;obtain⟨rfl,rfl⟩:=p;have:r=s:=by
   apply iJ;intro c;rcases c6 c e.length with v|v
   ·have ar:r[c]?=Y (r[c]'(by omega)):=cH aa
    have A:s[c]?=Y (s[c]'(by omega)):=cH aa
    obtain⟨j,ad,F,d3⟩:=bj c e[c] _ ae ar;obtain⟨n,am,G,H⟩:=R c (k[c]'(by omega)) _ ac A
    obtain rfl:j=n:=by
     apply iJ;intro o;rcases c6 o j.length with L|L
     ·have cv:=F o j[o] ae;have c1:=G o (n[o]'(by omega)) ac
      grind
     grind
    rw[ar,A,aW.uniq (τ:=g) d d3 H]
   grind
  grind
inductive a6 where
 |idx (i:X)
 |deref
 |unst
 |fst
 |snd
 deriving apL
variable{m:bp a6}
def e2:(τ:ak)->τ.den->bp a6->(a:ak)->a.den->Prop
 |τ,d,[],a,b=>∃i:τ=a,i▸d=b
 |.osl e,k,.idx j::c,a,b=>∃f,k[j]?=Y f/\e2 e f c a b
 |.optr e,d,.deref::c,a,b|.st e,d,.unst::c,a,b=>e2 e d c a b
 |.pr g _,d,.fst::c,a,b=>e2 g d.1 c a b
 |.pr _ h,d,.snd::c,a,b=>e2 h d.2 c a b
 |_,_,_,_,_=>b7
def fq:(τ:ak)->τ.den->bp a6->(a:ak)->a.den->τ.den->Prop
 |τ,_,[],a,b,e=>∃m:τ=a,m▸e=b
 |.osl g,j,.idx i::c,a,b,n=>∃h f,j[i]?=Y h/\fq g h c a b f/\n=j.set i f
 |.optr g,d,.deref::c,a,b,e|.st g,d,.unst::c,a,b,e=>fq g d c a b e
 |.pr k _,d,.fst::c,a,b,e=>∃f,fq k d.1 c a b f/\e=(f,d.2)
 |.pr _ l,d,.snd::c,a,b,e=>∃f,fq l d.2 c a b f/\e=(d.1,f)
 |_,_,_,_,_,_=>b7
theorem e2.gK {a:d.den} {b:q.den}:e2 d a [] q b↔∃c:d=q,c▸a=b:=by cases d<;>exact aou
theorem fq.gK {e a:d.den} {b:q.den}:fq d e [] q b a↔∃c:d=q,c▸a=b:=by cases d<;>exact aou
abbrev Loc:=bv es
variable{v:Loc}
def aZ (j:bF):(τ:ak)->Loc->amo->bp a6->(a:ak)->Loc->amo->Prop
 |τ,h,cs,[],a,c,b=>τ=a/\h=c/\cs=b
 |.osl f,_,cs,.idx l::e,a,c,b=>∃d i m o g,cs=[.slice (Y ⟨d,i,br⟩) m o]/\l<m/\g.length=f.size/\fG j d (i+l*f.size) g/\aZ j f (Y (d,i+l*f.size)) g e a c b
 |.optr f,_,cs,.deref::e,a,c,b=>∃d i g,cs=[.pointer (Y ⟨d,i,br⟩)]/\g.length=f.size/\fG j d i g/\aZ j f (Y (d,i)) g e a c b
 |.st f,h,cs,.unst::e,a,c,b=>aZ j f h cs e a c b
 |.pr k _,h,cs,.fst::e,a,c,b=>aZ j k h (cs.take k.size) e a c b
 |.pr k d,h,cs,.snd::e,a,c,b=>aZ j d (h.map λn=>(n.1,n.2+k.size)) (cs.drop k.size) e a c b
 |_,_,_,_,_,_,_=>b7
theorem fG.eq {cs:amo} (c:fG f b h cs) (d:fG f b h u) (j:cs.length=u.length):cs=u:=by
 apply iJ;intro a;rcases c6 a cs.length with e|e
 ·have g:=c a cs[a] ae;have i:=d a (u[a]'(by omega)) ac
  grind
 grind
theorem aZ.lj {v:bF}:∀{o:bp a6} {e:ak} {h:Loc} {cs:amo} {r u:ak} {f g:Loc} {p q:amo},aZ v e h cs o r f p->aZ v e h cs o u g q->r=u/\f=g/\p=q
 |[],e,h,cs,_,_,_,_,_,_,c,d=>by grind [aZ]
 |s::o,e,h,cs,_,_,_,_,_,_,c,d=>by
  cases e<;>cases s<;>simp only[aZ] at c d
  case osl.idx t i=>
   obtain⟨l,z,D,B,x,ar,_,f,j,m⟩:=c;obtain⟨w,A,E,C,y,b,_,g,k,n⟩:=d;rw[ar] at b;simp only[ij,amE,e9,amR,cf] at b;obtain⟨⟨rfl,rfl⟩,rfl,rfl⟩:=b;obtain rfl:=j.eq k aa;exact aZ.lj m n
  case optr.deref t=>
   obtain⟨l,z,x,ar,f,j,m⟩:=c;obtain⟨w,A,y,b,g,k,n⟩:=d;rw[ar] at b;simp only[ij,anJ,e9,amR,cf] at b;obtain⟨rfl,rfl⟩:=b;obtain rfl:=j.eq k aa;exact aZ.lj m n
  case st.unst t=>exact aZ.lj c d
  case pr.fst a l=>exact aZ.lj c d
  case pr.snd a l=>exact aZ.lj c d
def ta (c d:bF) (f:Loc) (g:X) (b:X):Prop:=
 (∀a,(∀e,f=Y (b,e)->a<e\/e+g<=a)->d.cell? ⟨b,a,br⟩=c.cell? ⟨b,a,br⟩)/\
 (∀a,d.frozen? ⟨b,a,br⟩=c.frozen? ⟨b,a,br⟩)/\(∀a,(d.cell? ⟨b,a,br⟩).isSome=(c.cell? ⟨b,a,br⟩).isSome)/\jF d b=jF c b
def ta.sm (a:ta f l v h b) (e:∀c,v≠Y (b,c)):dm f l b:=
 ⟨λd=>⟨a.1 d (λc g=>absurd g (e c)),a.2.1 d⟩,a.2.2.2⟩
def ta.FI {i:X} (a:ta f l v i b) (e:jf f b V h):jf l b V h:=
 λg c d=>by rw[a.2.1,a.2.2.1];exact e g c d
def qF (c:bF) (d:Loc) (cs:amo) (e:X):Prop:=∀b a,d=Y (b,a)->fG c b a cs/\jf c b a (a+e)
theorem fG.take {d:bF} {b c g:X} {cs:amo} (e:fG d b c cs):fG d b c (cs.take g):=λf h a=>by
 rw[ao0] at a;split at a
 ·exact e f h a
 grind
theorem fG.drop {e:bF} {b d a:X} {cs:amo} (f:fG e b d cs):fG e b (d+a) (cs.drop a):=λg h c=>by rw[qA] at c;have:=f (a+g) h c;grind
theorem fG.append {cs:amo} (d:fG f b h cs) (e:fG f b (h+cs.length) u):fG f b h (cs++u):=λg c a=>by
 rw[List.getElem?_append] at a;split at a
 ·exact d g c a
 have:=e _ c a;grind
def ahn {a:bp x} {d:x} (e:a[b]?=Y d):∃c f,a=c++d::f/\c.length=b:=by obtain⟨g,rfl⟩:=iv.1 e;exact⟨a.take b,a.drop (b+1),by rw[List.getElem_cons_drop,kC],ae⟩
def aZ.sm {C:eM->X->Prop} {x B:bF}:∀{w:bp a6} {τ:ak} {r:Loc} {cs:amo} {y:τ.den} {o:amu} {z:ak} {u:Loc} {m:amo},aW C x τ cs y o->(∀a∈o,dm x B a)->aZ x τ r cs w z u m->aZ B τ r cs w z u m
 |[],τ,_,_,_,_,_,_,_,_,_,b=>by cases τ<;>exact b
 |s::w,τ,r,cs,y,o,z,u,m,g,d,b=>by
  cases τ<;>cases s<;>simp only[aZ] at b
  case osl.idx t i=>
   obtain⟨a,v,R,E,n,rfl,L,p,f,q⟩:=b;obtain⟨l,N,e,j⟩:=g;simp only[ij,amE,cf] at e;obtain⟨rfl,rfl,rfl⟩:=e;rcases j with⟨h,_⟩|⟨D,M,I,h,rfl,aB,S,T,bj⟩
   ·cases h
   simp only[e9,amR,cf] at h;obtain⟨rfl,rfl⟩:=h;obtain⟨G,O,F,d3⟩:=bj i y[i] (I[i]'(by omega)) ae ac
   obtain rfl:=f.eq F aa;exact⟨a,v,_,E,n,bq,L,p,f.sm (d a ac),aZ.sm d3 (λc k=>d c (gH _ (mB.2 ⟨_,cT aa,k⟩))) q⟩
  case optr.deref t=>
   obtain⟨a,v,n,rfl,p,f,q⟩:=b;obtain⟨D,M,P,G,A,rfl,Q,J,_,K⟩:=g;simp only[ij,anJ,e9,amR,cf] at A;obtain⟨rfl,rfl⟩:=A;obtain rfl:=f.eq J aa;exact⟨a,v,n,bq,p,f.sm (d a ac),aZ.sm K (λc k=>d c ae) q⟩
  case st.unst t=>exact aZ.sm (τ:=t) g d b
  case pr.fst l a=>
   obtain⟨H,f2,rfl,e,j⟩:=g;exact aZ.sm (τ:=l) e (λc k=>d c ae) b
  case pr.snd l a=>
   obtain⟨H,f2,rfl,e,j⟩:=g;exact aZ.sm (τ:=a) j (λc k=>d c ae) b
def ot:bp a6->bD
 |[]=>bu
 |.idx _::_|.deref::_=>bt
 |_::a=>ot a
def hG:bp a6->bp a6->bD
 |p,[]=>ot p
 |.idx _::p,.idx _::a|.deref::p,.deref::a|.unst::p,.unst::a|.fst::p,.fst::a|.snd::p,.snd::a=>hG p a
 |.fst::_,.snd::_|.snd::_,.fst::_=>bt
 |_,_=>bu
theorem aZ.oD {a:Loc} {cs:amo}:aZ f d v cs [] q a u↔d=q/\v=a/\cs=u:=by cases d<;>exact aou
def lG:bp a6->bp a6->bD
 |.deref::a,.deref::b|.unst::a,.unst::b|.fst::a,.fst::b|.snd::a,.snd::b=>lG a b
 |.fst::_,.snd::_|.snd::_,.fst::_=>bt
 |_,_=>bu
theorem v2 (a:bp a6):lG [] a=bu:=by cases a<;>rfl
theorem Js:∀{p q:bp a6},lG p q=bt->hG p q=bt
 |[],q,a=>by grind [v2]
 |s::p,[],a=>by cases s<;>cases a
 |s::p,b::q,a=>by cases s<;>cases b<;>first|(cases a;done)|exact Js (p:=p) (q:=q) a|rfl
theorem v5:∀{p q:bp a6} {τ:ak} {h j:τ.den} {k f:ak} {l:k.den} {i:f.den},lG p q=bt->fq τ h p k l j->e2 τ h q f i->e2 τ j q f i
 |[],q,_,_,_,_,_,_,_,d,_,_=>by grind [v2]
 |s::p,[],_,_,_,_,_,_,_,d,_,_=>by cases s<;>cases d
 |s::p,m::q,τ,h,j,k,f,l,i,d,c,e=>by
  cases τ<;>cases s<;>simp only[fq] at c<;>cases m<;>first|(cases d;done)|(simp only[e2] at e;done)|skip
  case optr.deref.deref t=>exact v5 (p:=p) (q:=q) (τ:=t) d c e
  case st.unst.unst t=>exact v5 (p:=p) (q:=q) (τ:=t) d c e
  case pr.fst.fst a b=>
   obtain⟨g,c,rfl⟩:=c;exact v5 (p:=p) (q:=q) (τ:=a) d c e
  case pr.snd.snd a b=>
   obtain⟨g,c,rfl⟩:=c;exact v5 (p:=p) (q:=q) (τ:=b) d c e
  case pr.fst.snd a b=>
   obtain⟨g,c,rfl⟩:=c;exact e
  case pr.snd.fst a b=>
   obtain⟨g,c,rfl⟩:=c;exact e
theorem aW.sub {A:eM->X->Prop} {z:bF}:∀{p:bp a6} {τ:ak} {y:Loc} {cs:amo} {m:τ.den} {o:amu} {l:ak} {q:l.den} {x:Loc} {n:amo},aW A z τ cs m o->e2 τ m p l q->aZ z τ y cs p l x n->∃d,aW A z l n q d/\∀b∈d,b∈o
 |[],τ,y,cs,m,o,l,q,x,n,f,c,a=>by grind [aZ.oD,e2.gK]
 |s::p,τ,y,cs,m,o,l,q,x,n,f,c,a=>by
  cases τ<;>cases s<;>simp only[e2] at c<;>simp only[aZ] at a
  case osl.idx t i=>
   obtain⟨I,C,c⟩:=c;obtain⟨F,P,an,U,H,e,r,K,u,a⟩:=a;obtain⟨S,T,rfl,f⟩:=f;rcases f with⟨_,rfl,_⟩|⟨E,O,B,rfl,rfl,am,V,M,N⟩
   ·grind
   have ad:i<m.length:=(iv.1 C).1;obtain⟨d,D⟩:∃d,B[i]?=some d:=⟨B[i],cH aa⟩;obtain⟨G,L,v,w⟩:=N i I d C D;simp only[ij,amE,e9,amR,cf] at e;obtain⟨⟨rfl,rfl⟩,rfl,rfl⟩:=e;obtain rfl:=u.eq v aa;obtain⟨g,j,k⟩:=aW.sub (p:=p) w c a;exact⟨g,j,λb h=>gH _ (mB.2 ⟨d,qE D,k b h⟩)⟩
  case optr.deref t=>
   obtain⟨F,P,H,e,K,u,a⟩:=a;obtain⟨E,O,d,G,rfl,rfl,L,v,M,w⟩:=f;simp only[ij,anJ,e9,amR,cf] at e;obtain⟨rfl,rfl⟩:=e;obtain rfl:=u.eq v aa;obtain⟨g,j,k⟩:=aW.sub (p:=p) w c a;exact⟨g,j,λb h=>gH _ (k b h)⟩
  case st.unst t=>exact aW.sub (p:=p) (τ:=t) f c a
  case pr.fst Q R=>
   obtain⟨J,f2,rfl,e,r⟩:=f;obtain⟨g,j,k⟩:=aW.sub (p:=p) e c a;exact⟨g,j,λb h=>oW _ (k b h)⟩
  case pr.snd Q R=>
   obtain⟨J,f2,rfl,e,r⟩:=f;obtain⟨g,j,k⟩:=aW.sub (p:=p) r c a;exact⟨g,j,λb h=>kB _ (k b h)⟩
theorem Bv:∀(ad:bp a6) {τ:ak} {loc:Loc} {cs:amo} {av:τ.den} {ex:amu} {E:ak} {is:E.den},aW e f τ cs av ex->qF f loc cs τ.size->ex.Nodup->(∀g d,loc=Y (g,d)->g∉ex/\∀q,¬e q g)->(∀g∈ex,∀q,¬e q g)->e2 τ av ad E is->∃x R a4 T,aZ f τ loc cs ad E x R/\aW e f E R is a4/\qF f x R E.size/\ex.Perm (a4++T)/\(∀m h,x=Y (m,h)->(∃d,loc=Y (m,d)/\d<=h/\h+E.size<=d+τ.size)\/m∈T)/\(∀(
   s:bF) (J:eM->X->Prop) (C:amo) (y:E.den) (U:amu) (d0:τ.den),
   (∀q g,e q g->J q g)->(∀g,(∃q,e q g)\/g∈T\/(∃d,loc=Y (g,d))->ta f s x E.size g)->
   aW J s E C y U->(x=br->ad≠[]->C=R)->(∀g d,x=Y (g,d)->fG s g d C)->fq τ av ad E y d0->
   ∃n M,aW J s τ n d0 M/\(ad=[]->n=C)/\(loc=br->(x≠br\/C=R)->n=cs)/\(∀g d,loc=Y (g,d)->fG s g d n)/\M.Perm (U++T)/\aZ s τ loc n ad E x C/\∀(c:bp a6) (P:ak) (O:Loc) (L:amo),hG ad c=bt->aZ f τ loc cs c P O L->aZ s τ loc n c P O L)/\
  (∀(c:bp a6) (a0:ak) (y:a0.den) (an:Loc) (dg:amo) (f2:amu),lG ad c=bt->a0.lr=bt->e2 τ av c a0 y->aZ f τ loc cs c a0 an dg->aW e f a0 dg y f2->∀b∈f2,b∈T/\∀m h,x=Y (m,h)->b≠m):=by
 intro ad
 induction ad with
 |nil=>
  intro τ loc cs av ex E is ek cv d8 V c1 G;obtain⟨rfl,rfl⟩:=e2.gK.1 G;refine⟨loc,cs,ex,[],(by cases τ<;>exact⟨bq,bq,bq⟩),ek,cv,ac,λm h a=>.inl ⟨h,a,aa,aa⟩,?_,λc _ _ _ _ _ a=>by grind [v2]⟩;intro s J C y U d0 _ _ z _ N A;obtain⟨_,rfl⟩:=fq.gK.1 A;exact⟨C,U,z,λ_=>rfl,λco a=>a.resolve_left (λc=>c co),N,ac,(by cases τ<;>exact⟨bq,bq,bq⟩),λc _ _ _ o=>by grind [hG,ot]⟩
 |cons or ad gs=>
  intro τ loc cs av ex E is ek cv d8 V c1 G;cases τ<;>cases or<;>simp only[e2] at G
  case osl.idx t i=>
   obtain⟨a3,fp,G⟩:=G;obtain⟨os,em,rfl,ek⟩:=ek;rcases ek with⟨_,rfl,_⟩|⟨g,d,f5,rfl,rfl,l2,of,ib,kg⟩
   ·simp at fp
   have i8:i<av.length:=(iv.1 fp).1;obtain⟨gc,ll⟩:∃gc,f5[i]?=some gc:=⟨f5[i],cH aa⟩;obtain⟨f7,i1,f3,i2⟩:=kg i a3 gc fp ll;obtain⟨ds,io,fr,op⟩:=ahn ll;have rb:∀v,v<av.length->d+v*t.size+t.size<=d+em*t.size:=λv o=>(by have:(v+1)*t.size<=em*t.size:=hW _ aa;grind);have f4:qF f (Y (g,d+i*t.size)) f7 t.size:=(by rintro Q r a;simp only[e9,iN] at a;obtain⟨rfl,rfl⟩:=a;exact⟨f3,λw l N=>ib w aa ae⟩);have kd:=d8;rw[fr] at kd;simp only[zL,my,kS,jR,hl,not_or] at kd;obtain⟨⟨nx,f0,n7⟩,jp,⟨ft,f6,ok⟩,ol⟩:=kd;obtain⟨x,R,a4,T,d2,d3,d4,F,S,d5,fl⟩:=gs (loc:=Y (g,d+i*t.size)) i2 f4 ft (by rintro Q r a;simp only[e9,iN] at a;obtain⟨rfl,rfl⟩:=a;exact⟨f0,c1 g ac⟩) (λb k=>c1 b (by rw[fr];simp[k])) G;refine⟨x,R,a4,g::(ds.flatten++(T++io.flatten)),⟨g,d,_,em,f7,bq,i8,i1,f3,d2⟩,d3,d4,?_,?_,?_,λc _ _ _ _ _ a=>by cases c with|nil=>cases a|cons H c=>cases H<;>cases a⟩
   ·rw[fr];simp only[zL,my];rw[vf] at F|-;intro b;have:=F b;simp only[u7,ao1] at this|-;omega
   ·intro m h a;right;rcases S m h a with⟨r,l,_⟩|l
    ·simp only[e9,iN] at l;rw[l.1];simp
    simp[l]
   intro s J C y U d0 bs u z d9 d6 A;simp only[fq] at A;obtain⟨ne,f8,lk,A,rfl⟩:=A;obtain rfl:ne=a3:=(by rw[fp] at lk;exact(gn lk).symm);obtain⟨n,M,B,_,_,K,am,el,ci⟩:=d5 s J C y U f8 bs (by
     rintro b (a|a|⟨r,a⟩)
     ·exact u b (.inl a)
     ·exact u b (.inr (.inl (by simp[a])))
     simp only[e9,iN] at a;exact u b (.inr (.inl (by rw[<-a.1];simp)))) z
    (by
     intro co rl;exact d9 co ac) d6 A
   have bx:∀m h,x=Y (m,h)->(m=g/\d+i*t.size<=h/\h+E.size<=d+i*t.size+t.size)\/m∈gc:=by
    intro m h a;rcases S m h a with⟨r,l,N,hv⟩|l
    ·simp only[e9,iN] at l;omega
    exact .inr (F.mem_iff.2 (by simp[l]))
   have fn:=u g (.inr (.inl ac));have gf:∀q b,e q b->J q b/\dm f s b:=λq b k=>⟨bs q b k,(u b (.inl ⟨q,k⟩)).sm (λr a=>by
    rcases bx b r a with⟨rfl,_⟩|l
    ·exact c1 b ac q k
    exact c1 b (by rw[fr];simp[l]) q k)⟩
   have mc:∀(v:X) (hs:t.den) (bl:amu),v≠i->av[v]?=Y hs->f5[v]?=Y bl->∀d1:amo,d1.length=t.size->fG f g (d+v*t.size) d1->fG s g (d+v*t.size) d1/\∀b∈bl,dm f s b:=by
    intro v hs bl gl o dl d1 ii hc;have rd:v<av.length:=(iv.1 o).1;have i3:∀b∈bl,b∈ds.flatten\/b∈io.flatten:=by
     intro b k;rw[fr] at dl;rcases c6 v ds.length with a|a
     ·rw[qy a] at dl;exact .inl (mB.2 ⟨bl,qE dl,k⟩)
     rw[qz a] at dl;obtain⟨c,D⟩:∃c,v-ds.length=c+1:=⟨v-ds.length-1,aa⟩;rw[D] at dl;simp only[xn] at dl;exact .inr (mB.2 ⟨bl,qE dl,k⟩)
    refine⟨?_,?_⟩
    ·intro w hr fs;have ic:w<d1.length:=(iv.1 fs).1;rw[fn.1]
     ·exact hc w hr fs
     intro h a;rcases bx g h a with⟨_,l,N⟩|l
     ·rcases Nat.lt_or_gt_of_ne gl with rg|ra
      ·left;have:(v+1)*t.size<=i*t.size:=hW _ aa;rw[la,iL] at this;omega
      right;have:(i+1)*t.size<=v*t.size:=hW _ aa;rw[la,iL] at this;omega
     exact absurd l f0
    intro b k;refine(u b (.inr (.inl ?_))).sm ?_
    ·rcases i3 b k with a|a<;>simp[a]
    intro h a;rcases bx b h a with⟨rfl,_⟩|l
    ·rcases i3 b k with a|a
     ·exact nx a
     exact n7 a
    rcases i3 b k with a|a
    ·exact ol b a b (.inl l) rfl
    exact ok b l b a bq
   refine⟨[.slice (Y ⟨g,d,br⟩) av.length em],g::(ds++M::io).flatten,⟨Y ⟨g,d,br⟩,em,ac,.inr ⟨g,d,ds++M::io,bq,bq,?_,by simpa using of,fn.FI ib,?_⟩⟩,ac,λ_ _=>rfl,?_,?_,⟨g,d,_,em,n,bq,i8,by rw[B.len],K g _ rfl,el⟩,?_⟩
   ·rw[fr] at l2;simpa using l2
   ·intro v hs bl o G;by_cases gl:v=i
    ·subst gl;rw[List.getElem?_set_self i8] at o;obtain rfl:=gn o;rw[qz aa,op,vl] at G;simp only[rR,e9] at G;subst G;exact⟨n,by rw[B.len],K g _ rfl,B⟩
    rw[List.getElem?_set_ne (λa=>gl a.symm)] at o;have dl:f5[v]?=Y bl:=by
     rw[fr];rcases c6 v ds.length with a|a
     ·rw[qy a] at G|-;exact G
     rw[qz a] at G|-;obtain⟨c,D⟩:∃c,v-ds.length=c+1:=⟨v-ds.length-1,aa⟩;rw[D] at G|-;simpa using G
    obtain⟨d1,ii,hc,lc⟩:=kg v hs bl o dl;obtain⟨le,lf⟩:=mc v hs bl gl o dl d1 ii hc;exact⟨d1,ii,le,lc.mono gf lf⟩
   ·intro Q r a;have gi:=(V Q r a).1;refine((cv Q r a).1).sm ((u Q (.inr (.inr ⟨r,a⟩))).sm ?_);intro h fT;rcases bx Q h fT with⟨rfl,_⟩|l
    ·exact gi ac
    exact gi (by rw[fr];simp[l])
   ·rw[vf] at am|-;intro b;have:=am b;simp only[zL,my,u7,ao1] at this|-;omega
   intro c P O L o D;cases c with
   |nil=>exact D
   |cons H c=>
    cases H<;>simp only[hG] at o<;>first|(cases o;done)|skip
    rename_i w;obtain⟨Q,r,rs,pl,ix,l,N,hv,ge,hw⟩:=D;simp only[ij,amE,e9,amR,cf] at l;obtain⟨⟨rfl,rfl⟩,rfl,rfl⟩:=l;by_cases lt:w=i
    ·subst lt;obtain rfl:=ge.eq f3 aa;exact⟨g,d,_,em,n,bq,N,B.len,K g _ rfl,ci c P O L o hw⟩
    have mt:av[w]?=Y av[w]:=cH N;have lo:f5[w]?=Y (f5[w]'(by omega)):=cH _
    obtain⟨d1,ii,hc,lc⟩:=kg w _ _ mt lo;obtain rfl:=ge.eq hc aa;obtain⟨le,lf⟩:=mc w _ _ lt mt lo ix hv ge;exact⟨g,d,_,em,ix,bq,N,hv,le,aZ.sm lc lf hw⟩
  case optr.deref t=>
   obtain⟨g,d,gc,f7,rfl,rfl,i1,f3,ib,i2⟩:=ek;simp only[kS] at d8;obtain⟨pv,on⟩:=d8;have f4:qF f (Y (g,d)) f7 t.size:=(by rintro Q r a;grind);obtain⟨x,R,a4,T,d2,d3,d4,F,S,d5,fl⟩:=gs (loc:=Y (g,d)) i2 f4 on ae (λb k=>c1 b ae) G;refine⟨x,R,a4,g::T,⟨g,d,f7,bq,i1,f3,d2⟩,d3,d4,?_,?_,?_,?_⟩
   rotate_left 3
   ·intro c a0 y an dg f2 a ft d7 ce z b k;cases c with
    |nil=>cases a
    |cons H c=>
     cases H<;>first|(cases a;done)|skip
     simp only[aZ] at ce;obtain⟨Q,r,pm,ar,ps,nn,ce⟩:=ce;simp only[ij,anJ,e9,amR,cf] at ar;obtain⟨rfl,rfl⟩:=ar;obtain rfl:=nn.eq f3 aa;obtain⟨aB,I⟩:=fl c a0 y an dg f2 a ft d7 ce z b k;exact⟨by simp[aB],I⟩
   ·rw[vf] at F|-;intro b;have:=F b;simp only[u7,ao1] at this|-;omega
   ·intro m h a;right;rcases S m h a with⟨r,l,_⟩|l
    ·simp only[e9,iN] at l;rw[l.1];simp
    simp[l]
   intro s J C y U d0 bs u z d9 d6 A;simp only[fq] at A;obtain⟨n,M,B,_,_,K,am,el,ci⟩:=d5 s J C y U d0 bs (by
     rintro b (a|a|⟨r,a⟩)
     ·exact u b (.inl a)
     ·exact u b (.inr (.inl (by simp[a])))
     simp only[e9,iN] at a;exact u b (.inr (.inl (by rw[<-a.1];simp)))) z
    (λco _=>d9 co ac) d6 A
   have fn:=u g (.inr (.inl ac));refine⟨[.pointer (Y ⟨g,d,br⟩)],g::M,⟨g,d,M,n,bq,bq,B.len,K g d bq,fn.FI ib,B⟩,ac,λ_ _=>rfl,?_,?_,⟨g,d,n,bq,B.len,K g d bq,el⟩,?_⟩
   ·intro Q r a;have gi:=(V Q r a).1;refine((cv Q r a).1).sm ((u Q (.inr (.inr ⟨r,a⟩))).sm ?_);intro h fT;rcases S Q h fT with⟨nd,l,_⟩|l
    ·simp only[e9,iN] at l;exact gi (by rw[l.1];simp)
    exact gi (gH _ (F.mem_iff.2 (by simp[l])))
   ·rw[vf] at am|-;intro b;have:=am b;simp only[u7,ao1] at this|-;omega
   intro c P O L o D;cases c with
   |nil=>exact D
   |cons H c=>
    cases H<;>simp only[hG] at o<;>first|(cases o;done)|skip
    obtain⟨Q,r,ix,l,hv,ge,hw⟩:=D;simp only[ij,anJ,e9,amR,cf] at l;obtain⟨rfl,rfl⟩:=l;obtain rfl:=ge.eq f3 aa;exact⟨g,d,n,bq,B.len,K g d bq,ci c P O L o hw⟩
  case st.unst t=>
   obtain⟨x,R,a4,T,d2,d3,d4,F,S,d5,fl⟩:=gs (loc:=loc) (τ:=t) ek cv d8 V c1 G;refine⟨x,R,a4,T,d2,d3,d4,F,S,?_,?_⟩
   rotate_left 1
   ·intro c a0 y an dg f2 a ft d7 ce z b k;cases c with
    |nil=>cases a
    |cons H c=>
     cases H<;>first|(cases a;done)|skip
     exact fl c a0 y an dg f2 a ft d7 ce z b k
   intro s J C y U d0 bs u z d9 d6 A;obtain⟨n,M,B,ro,gt,K,am,el,ci⟩:=d5 s J C y U d0 bs u z (λco _=>d9 co ac) d6 A;refine⟨n,M,B,ac,gt,K,am,el,?_⟩;intro c P O L o D;cases c with
   |nil=>
    obtain⟨rfl,rfl,rfl⟩:=aZ.oD.1 D;obtain⟨_,_,a3⟩:=aZ.oD.1 (ci [] t loc cs (by simpa[hG,ot] using o) (aZ.oD.2 ⟨bq,bq,bq⟩));exact aZ.oD.2 ⟨bq,bq,a3⟩
   |cons H c=>
    cases H<;>simp only[hG] at o<;>first|(cases o;done)|skip
    exact ci c P O L o D
  case pr.fst j c2=>
   obtain⟨fz,f2,rfl,l,N⟩:=ek;have lb:=l.len;have an:=N.len;simp only[hz,oT] at lb an;have f4:qF f loc (cs.take j.size) j.size:=λg d a=>⟨(cv g d a).1.take,λw aB I=>(cv g d a).2 w aB (by show w<d+(j.size+c2.size);omega)⟩;simp only[jR] at d8;obtain⟨jp,ft,f6⟩:=d8;obtain⟨x,R,a4,T,d2,d3,d4,F,S,d5,fl⟩:=gs (loc:=loc) l f4 jp (λg d a=>⟨λc=>(V g d a).1 (by simp[c]),(V g d a).2⟩) (λb k=>c1 b ae) G;refine⟨x,R,a4,T++f2,d2,d3,d4,?_,?_,?_,?_⟩
   rotate_left 3
   ·intro c a0 y an dg i0 a go d7 ce z b k;cases c with
    |nil=>cases a
    |cons H c=>
     cases H<;>first|(cases a;done)|skip
     ·obtain⟨aB,I⟩:=fl c a0 y an dg i0 a go d7 ce z b k;exact⟨by simp[aB],I⟩
     obtain⟨bl,B,K⟩:=aW.sub (p:=c) N d7 ce;have f1:b∈f2:=K b (by rw[<-aW.uniq go z B];exact k);refine⟨by simp[f1],λm h fp a3=>?_⟩;subst a3;rcases S b h fp with⟨r,ar,_⟩|ar
     ·exact(V b r ar).1 (by simp[f1])
     exact f6 b (F.mem_iff.2 (by simp[ar])) b f1 bq
   ·rw[vf] at F|-;intro b;have:=F b;simp only[u7] at this|-;omega
   ·intro m h a;rcases S m h a with⟨r,aB,I,hi⟩|aB
    ·exact .inl ⟨r,aB,I,by show h+E.size<=r+(j.size+c2.size);omega⟩
    exact .inr (by simp[aB])
   intro s J C y U d0 bs u z d9 d6 A;simp only[fq] at A;obtain⟨f8,A,rfl⟩:=A;obtain⟨n,M,B,_,gt,K,am,el,ci⟩:=d5 s J C y U f8 bs (by
     rintro b (a|a|a)
     ·exact u b (.inl a)
     ·exact u b (.inr (.inl (by simp[a])))
     exact u b (.inr (.inr a))) z (λco _=>d9 co ac) d6 A
   have bx:∀m h,x=Y (m,h)->(∃d,loc=Y (m,d)/\d<=h/\h+E.size<=d+j.size)\/m∈fz:=λm h a=>(S m h a).imp id (λc=>F.mem_iff.2 (by simp[c]));have gf:∀q b,e q b->J q b/\dm f s b:=λq b k=>⟨bs q b k,(u b (.inl ⟨q,k⟩)).sm (λr a=>by
    rcases bx b r a with⟨d,c,_⟩|c
    ·exact(V b d c).2 q k
    exact c1 b (by simp[c]) q k)⟩
   have mp:∀b∈f2,dm f s b:=λb k=>(u b (.inr (.inl (by simp[k])))).sm (λh a=>by
    rcases bx b h a with⟨d,c,_⟩|c
    ·exact(V b d c).1 (by simp[k])
    exact f6 b c b k bq)
   have mz:=B.len;refine⟨n++cs.drop j.size,M++f2,⟨M,f2,bq,?_,?_⟩,ac,?_,?_,?_,(by
    show aZ s j loc ((n++cs.drop j.size).take j.size) ad E x C;rw[vh aa,gJ aa];exact el),?_⟩
   ·rw[vh aa,gJ aa];exact B
   ·rw[u9 aa,vb aa,h3];exact N.mono gf mp
   ·intro aB I;rw[gt aB I,kC]
   ·intro g d a;refine(K g d a).append ?_;rw[mz];intro w hr fs;have fn:=u g (.inr (.inr ⟨d,a⟩));have ic:w<(cs.drop j.size).length:=(iv.1 fs).1;simp only[oT] at ic;rw[fn.1]
    ·exact((cv g d a).1.drop) w hr fs
    intro h fT;rcases bx g h fT with⟨nd,aB,I,hi⟩|c
    ·rw[a] at aB;simp only[e9,iN,true_and] at aB;omega
    exact absurd (by simp[c]) (V g d a).1
   ·rw[vf] at am|-;intro b;have:=am b;simp only[u7] at this|-;omega
   intro c P O L o D;have ar:(n++cs.drop j.size).take j.size=n:=(by rw[vh aa,gJ aa]);have f9:(n++cs.drop j.size).drop j.size=cs.drop j.size:=(by rw[u9 aa,vb aa,h3]);cases c with
   |nil=>
    obtain⟨rfl,rfl,rfl⟩:=aZ.oD.1 D;obtain⟨_,_,a3⟩:=aZ.oD.1 (ci [] j loc (cs.take j.size) (by simpa[hG,ot] using o) (aZ.oD.2 ⟨bq,bq,bq⟩));exact aZ.oD.2 ⟨bq,bq,by rw[a3,kC]⟩
   |cons H c=>
    cases H<;>simp only[hG] at o<;>first|(cases o;done)|skip
    ·show aZ s j loc ((n++cs.drop j.size).take j.size) c P O L;rw[ar];exact ci c P O L o D
    show aZ s c2 (loc.map λc=>(c.1,c.2+j.size)) ((n++cs.drop j.size).drop j.size) c P O L;rw[f9];exact aZ.sm N mp D
  case pr.snd j c2=>
   obtain⟨fz,f2,rfl,l,N⟩:=ek;have lb:=l.len;have an:=N.len;simp only[hz,oT] at lb an;have f4:qF f (loc.map λc=>(c.1,c.2+j.size)) (cs.drop j.size) c2.size:=by
    intro g d a;cases loc with
    |none=>grind
    |some c=>
     obtain⟨oN,ap⟩:=c;simp only[jT,e9,iN] at a;obtain⟨rfl,rfl⟩:=a;exact⟨(cv _ _ rfl).1.drop,λw aB I=>(cv _ _ rfl).2 w aa (by show w<ap+(j.size+c2.size);omega)⟩
   simp only[jR] at d8;obtain⟨jp,ft,f6⟩:=d8;have f0:∀g d,(loc.map λc=>(c.1,c.2+j.size))=Y (g,d)->∃ap,loc=Y (g,ap)/\d=ap+j.size:=by
    intro g d a;cases loc with
    |none=>grind
    |some c=>
     grind
   obtain⟨x,R,a4,T,d2,d3,d4,F,S,d5,fl⟩:=gs (loc:=loc.map λc=>(c.1,c.2+j.size)) N f4 ft (λg d a=>by grind) (λb k=>c1 b ae) G;refine⟨x,R,a4,T++fz,d2,d3,d4,?_,?_,?_,?_⟩
   rotate_left 3
   ·intro c a0 y an dg i0 a go d7 ce z b k;cases c with
    |nil=>cases a
    |cons H c=>
     cases H<;>first|(cases a;done)|skip
     ·obtain⟨bl,B,K⟩:=aW.sub (p:=c) l d7 ce;have f1:b∈fz:=K b (by rw[<-aW.uniq go z B];exact k);refine⟨by simp[f1],λm h fp a3=>?_⟩;subst a3;rcases S b h fp with⟨r,ar,_⟩|ar
      ·obtain⟨ap,f9,_⟩:=f0 _ _ ar;exact(V b ap f9).1 (by simp[f1])
      exact f6 b f1 b (F.mem_iff.2 (by simp[ar])) rfl
     obtain⟨aB,I⟩:=fl c a0 y an dg i0 a go d7 ce z b k;exact⟨by simp[aB],I⟩
   ·rw[vf] at F|-;intro b;have:=F b;simp only[u7] at this|-;omega
   ·intro m h a;rcases S m h a with⟨r,aB,I,hi⟩|aB
    ·obtain⟨ap,bj,rfl⟩:=f0 _ _ aB;exact .inl ⟨ap,bj,aa,by show h+E.size<=ap+(j.size+c2.size);omega⟩
    exact .inr (by simp[aB])
   intro s J C y U d0 bs u z d9 d6 A;simp only[fq] at A;obtain⟨f8,A,rfl⟩:=A;obtain⟨n,M,B,_,gt,K,am,el,ci⟩:=d5 s J C y U f8 bs (by
     rintro b (a|a|⟨d,a⟩)
     ·exact u b (.inl a)
     ·exact u b (.inr (.inl (by simp[a])))
     obtain⟨ap,bj,rfl⟩:=f0 _ _ a;exact u b (.inr (.inr ⟨ap,bj⟩))) z (λco _=>d9 co ac) d6 A
   have bx:∀m h,x=Y (m,h)->(∃d,loc=Y (m,d)/\d+j.size<=h/\h+E.size<=d+j.size+c2.size)\/m∈f2:=λm h a=>by
    rcases S m h a with⟨r,aB,I,hi⟩|c
    ·obtain⟨ap,bj,rfl⟩:=f0 _ _ aB;exact .inl ⟨ap,bj,I,hi⟩
    exact .inr (F.mem_iff.2 (by simp[c]))
   have gf:∀q b,e q b->J q b/\dm f s b:=λq b k=>⟨bs q b k,(u b (.inl ⟨q,k⟩)).sm (λr a=>by
    rcases bx b r a with⟨d,c,_⟩|c
    ·exact(V b d c).2 q k
    exact c1 b (by simp[c]) q k)⟩
   have mo:∀b∈fz,dm f s b:=λb k=>(u b (.inr (.inl (by simp[k])))).sm (λh a=>by
    rcases bx b h a with⟨d,c,_⟩|c
    ·exact(V b d c).1 (by simp[k])
    exact f6 b k b c bq)
   have mz:=B.len;refine⟨cs.take j.size++n,fz++M,⟨fz,M,bq,?_,?_⟩,ac,?_,?_,?_,(by
    show aZ s c2 (loc.map λc=>(c.1,c.2+j.size)) ((cs.take j.size++n).drop j.size) ad E x C;rw[u9 (by simp;omega),vb (by simp;omega),h3];exact el),?_⟩
   ·rw[vh (by simp;omega),aq0,aq1];exact l.mono gf mo
   ·rw[u9 (by simp;omega),vb (by simp;omega),h3];exact B
   ·intro aB I;rw[gt (by rw[aB];rfl) I,kC]
   ·intro g d a;have fn:=u g (.inr (.inr ⟨d,a⟩));have no:fG s g d (cs.take j.size):=by
     intro w hr fs;have ic:w<(cs.take j.size).length:=(iv.1 fs).1;simp only[hz] at ic;rw[fn.1]
     ·exact((cv g d a).1.take) w hr fs
     intro h fT;rcases bx g h fT with⟨nd,aB,I,hi⟩|c
     ·rw[a] at aB;simp only[e9,iN,true_and] at aB;omega
     exact absurd (by simp[c]) (V g d a).1
    refine no.append ?_;have:=K g (d+j.size) (by rw[a];rfl);rwa[hz,iZ aa]
   ·rw[vf] at am|-;intro b;have:=am b;simp only[u7] at this|-;omega
   intro c P O L o D;have ar:(cs.take j.size++n).take j.size=cs.take j.size:=(by rw[vh (by simp;omega),aq0,aq1]);have f9:(cs.take j.size++n).drop j.size=n:=(by rw[u9 (by simp;omega),vb (by simp;omega),h3]);cases c with
   |nil=>
    obtain⟨rfl,rfl,rfl⟩:=aZ.oD.1 D;obtain⟨_,_,a3⟩:=aZ.oD.1 (ci [] c2 (loc.map λc=>(c.1,c.2+j.size)) (cs.drop j.size) (by simpa[hG,ot] using o) (aZ.oD.2 ⟨bq,bq,bq⟩));exact aZ.oD.2 ⟨bq,bq,by rw[a3,kC]⟩
   |cons H c=>
    cases H<;>simp only[hG] at o<;>first|(cases o;done)|skip
    ·show aZ s j loc ((cs.take j.size++n).take j.size) c P O L;rw[ar];exact aZ.sm l mo D
    show aZ s c2 (loc.map λc=>(c.1,c.2+j.size)) ((cs.take j.size++n).drop j.size) c P O L;rw[f9];exact ci c P O L o D
theorem FH (h:bp a6) {loc:Loc} {cs:amo} {t:d.den} {τ':ak} {y:τ'.den} (C:aW e f d cs t j) (D:qF f loc cs d.size) (E:j.Nodup) (F:∀a b,loc=Y (a,b)->a∉j/\∀g,¬e g a) (G:∀a∈j,∀g,¬e g a) (H:e2 d t h τ' y):∃c k q n,aZ f d loc cs h τ' c k/\aW e f τ' k y q/\qF f c k τ'.size/\j.Perm (q++n)/\(∀p r,c=Y (p,r)->(∃b,loc=Y (p,b)/\b<=r/\r+τ'.size<=b+d.size)\/p∈n)/\(∀(
   i:bF) (o:eM->X->Prop) (l:amo) (A:τ'.den) (v:amu) (z:d.den),
   (∀g a,e g a->o g a)->(∀a,(∃g,e g a)\/a∈n\/(∃b,loc=Y (a,b))->ta f i c τ'.size a)->
   aW o i τ' l A v->(c=br->h≠[]->l=k)->(∀a b,c=Y (a,b)->fG i a b l)->fq d t h τ' A z->
   ∃m w,aW o i d m z w/\(h=[]->m=l)/\(loc=br->(c≠br\/l=k)->m=cs)/\(∀a b,loc=Y (a,b)->fG i a b m)/\w.Perm (v++n)/\aZ i d loc m h τ' c l/\∀(s:bp a6) (B:ak) (x:Loc) (u:amo),hG h s=bt->aZ f d loc cs s B x u->aZ i d loc m s B x u):=by
 obtain⟨c,k,q,n,I,J,K,L,M,N,_⟩:=Bv h C D E F G H;grind
def bi (a c:X->Prop):eM->X->Prop
 |.bm=>a
 |.cX=>λb=>a b\/c b
theorem nP {a:X->Prop} {d:eM} (c:bi a i d b):a b\/i b:=by cases d;exact .inl c;exact c
inductive ao where
 |dead
 |val (τ:ak) (x:τ.den)
 |ref (id:X) (p:bp a6)
 |addr (id:X) (p:bp a6)
 |view (id:X) (p:bp a6) (lo hi:X)
 |app (id:X) (p:bp a6) (τ:ak) (ys:bp τ.den) (own:amu)
 |eI (v:Value)
 |fx (l:bp ao)
 |agg (l:bp ao)
 |eG (f:X) (l:bp ao)
 |ent (id:X) (p:bp a6) (k:Z)
 |hY (a:ao)
variable{T:ao}{U:bp (X×ao)}
abbrev aI:=(a:ak)×a.den
variable{s:bp (X×aI)}{O:aI}
structure aR where
 g:bp (X×ao)
 h:bp (X×aI)
variable{z:aR}
def ax {a:Type}:bp (X×a)->X->bv a
 |[],_=>br
 |(k,v)::r,n=>bif bL k n then Y v else ax r n
theorem eJ (b:X) (d:x) (c:bp (X×x)) (a:X):ax ((b,d)::c) a=if b=a then Y d else ax c a:=by
 show(bif bL b a then Y d else ax c a)=_;by_cases e:b=a
 ·simp_all
 rw[aw e];grind [anl]
def gt (a:bp (X×ao)) (b:X):ao:=match ax a b with|some c=>c|none=>.dead
structure fg where
 I0:X->Prop
 B:X->Prop
 F0:X->Prop
 w0:bF
 n:X
 pin:amu
 vs:X->Value
variable{S:fg}
def fg.ok (a:fg) (d:X):Prop:=d<a.n/\d∉a.pin
inductive c0 (M:eM->X->Prop) (w:bF) (h:bp (X×aI)) (rt:X->amo) (fp:X->amu):ao->Value->Prop
 |dead (v:Value):c0 M w h rt fp .dead v
 |eI (v:Value):c0 M w h rt fp (.eI v) v
 |val {τ:ak} {x:τ.den} {cs:amo} (r:aW M w τ cs x []):c0 M w h rt fp (.val τ x) (c9 τ cs)
 |ref {id:X} {p:bp a6} {t:aI} {τ':ak} {loc:Loc} {cs:amo} (p7:ax h id=Y t) (FT:aZ w t.1 br (rt id) p τ' loc cs):c0 M w h rt fp (.ref id p) (c9 τ' cs)
 |addr {id:X} {p:bp a6} {t:aI} {τ':ak} {b o:X} {cs:amo} (p7:ax h id=Y t) (FT:aZ w t.1 br (rt id) p τ' (Y (b,o)) cs):c0 M w h rt fp (.addr id p) (.pointer (Y ⟨b,o,br⟩))
 |view {id:X} {p:bp a6} {lo hi:X} {t:aI} {τ':ak} {loc:Loc} {b o len cap:X} (p7:ax h id=Y t) (FT:aZ w t.1 br (rt id) p (.osl τ') loc [.slice (Y ⟨b,o,br⟩) len cap]) (FQ:lo<=hi) (Zi:hi<=len) (aiZ:len<=cap):c0 M w h rt fp (.view id p lo hi) (.slice (Y ⟨b,if cap=lo then o else o+lo*τ'.size,br⟩) (hi-lo) (cap-lo))
 |mZ (id:X) (p:bp a6):c0 M w h rt fp (.view id p 0 0) (.slice br 0 0)
 |app {id:X} {p:bp a6} {τ:ak} {ys:bp τ.den} {own:amu} {t:aI} {loc:Loc} {vA:amo} {xs:bp τ.den} {f1 f2:amu} {v:Value} (p7:ax h id=Y t) (ai3:τ.lr=bt) (FT:aZ w t.1 br (rt id) p (.osl τ) loc vA) (P4:e2 t.1 t.2 p (.osl τ) xs) (FQ:aW M w (.osl τ) vA xs f1) (ai1:∀b∈f1,b∈fp id) (Zi:aW M w (.osl τ) [v] (xs++ys) f2) (ai6:∀i∈own,i≠id/\∃u,ax h i=Y u) (ai7:∀b∈f2,b∈f1\/∃i∈own,b∈fp i) (ai4:f2.Nodup):c0 M w h rt fp (.app id p τ ys own) v
 |fx {l:bp ao} {vs:eB} (FSq:l.length=vs.size) (FR:∀(i:X) (a:ao) (v:Value),l[i]?=Y a->vs[i]?=Y v->c0 M w h rt fp a v):c0 M w h rt fp (.fx l) (.tuple vs)
 |agg {l:bp ao} {vs:amo} (FSq:l.length=vs.length) (FR:∀(i:X) (a:ao) (v:Value),l[i]?=Y a->vs[i]?=Y v->c0 M w h rt fp a v):c0 M w h rt fp (.agg l) (.agg (vs.map λv=>v.cells.toList).flatten.toArray)
 |ent {id:X} {p:bp a6} {k:Z} {t:aI} {τ':ak} {loc:Loc} {b c i:X} {fk:bW cp} {e:cp} (p7:ax h id=Y t) (FT:aZ w t.1 br (rt id) p (.mp τ') loc [.map (Y b)]) (P1:b∈fp id) (P5:jF w b=Y (fk,c)) (hi:fk[i]?=Y e) (ai2:e.key=.int .i64 k):c0 M w h rt fp (.ent id p k) (.int .i64 (e.born:Z))
 |eG {f:X} {l:bp ao} {vs:eB} (FSq:l.length=vs.size) (FR:∀(i:X) (a:ao) (v:Value),l[i]?=Y a->vs[i]?=Y v->c0 M w h rt fp a v):c0 M w h rt fp (.eG f l) (.func (.func f) #[] vs)
 |hY {a:ao} {v:Value} {b:X} (P1:M .bm b) (hc:w.cell? ⟨b,0,br⟩=Y v) (ai5:v.oneCell'=bt) (J9:c0 M w h rt fp a v):c0 M w h rt fp (.hY a) (.pointer (Y ⟨b,0,br⟩))
structure cW (C:fg) (st:aR) (MA:eB) (w:bF) (I:X->Prop) (rt:X->amo) (fp:X->amu):Prop where
 n:MA.size=C.n
 i0:∀b,C.I0 b->I b
 i1:∀b,I b->C.I0 b\/C.w0.heap.size<=b\/C.F0 b
 ib:∀b,I b\/C.B b->b<w.heap.size
 tree:∀id t,ax st.h id=Y t->aW (bi I C.B) w t.1 (rt id) t.2 (fp id)/\(fp id).Nodup/\∀b∈fp id,¬I b/\¬C.B b/\b<w.heap.size/\(C.w0.heap.size<=b\/C.F0 b)
 dis:∀i j t u,ax st.h i=Y t->ax st.h j=Y u->i≠j->∀b∈fp i,b∉fp j
 tmp:∀k,c0 (bi I C.B) w st.h rt fp (gt st.g k) (MA.getD k bY)
 frame:∀b,b<C.w0.heap.size->¬C.F0 b->w.heap[b]?=C.w0.heap[b]?
 evo:∀b,b<C.w0.heap.size->lA C.w0 w b
 size:C.w0.heap.size<=w.heap.size
 os:w.os=C.w0.os
 tape:w.tape=C.w0.tape
 output:w.output=C.w0.output
 pin:∀k∈C.pin,MA.getD k bY=C.vs k
def g0 (a:fg) (e:aR) (f:eB) (g:bF):Prop:=∃b d c,cW a e f g b d c
structure hL (w w':bF):Prop where
 os:w'.os=w.os
 tape:w'.tape=w.tape
 output:w'.output=w.output
 size:w.heap.size<=w'.heap.size
 heap:∀b,b<w.heap.size->w'.heap[b]?=w.heap[b]?
def hL.refl (a:bF):hL a a:=⟨bq,bq,bq,bf _,λ_ _=>rfl⟩
theorem hL.trans {c d e:bF} (a:hL c d) (b:hL d e):hL c e:=
 ⟨b.os.trans a.os,b.tape.trans a.tape,b.output.trans a.output,eE a.size b.size,λg f=>(b.heap g (jS f a.size)).trans (a.heap g f)⟩
def hL.drew {b c:bF} (a:hL b c):hL b c.drew:=⟨a.os,a.tape,a.output,a.size,a.heap⟩
theorem hL.alloc (a:bF) (b:Obj):hL a (a.alloc b):=⟨bq,bq,bq,ac,λc d=>by
 show(a.heap.push b)[c]?=_;grind⟩
theorem c0.mono {u x:eM->X->Prop} {r t:bF} {v z:bp (X×aI)} {w D:X->amo} {s y:X->amu} (n:∀B c,u B c->x B c/\dm r t c) (d:∀id m,ax v id=Y m->aW u r m.1 (w id) m.2 (s id)/\∀c∈s id,dm r t c) {j:ao} {b:Value} (F:c0 u r v w s j b) (o:∀id m,ax v id=Y m->ax z id=Y m/\D id=w id/\y id=s id):c0 x t z D y j b:=by
 induction F with
 |dead b=>exact .dead b
 |eI b=>exact .eI b
 |val S=>exact .val (S.mono n ac)
 |ref a g=>
  obtain⟨h,i,_⟩:=o _ _ a;exact .ref h (by rw[i];exact g.sm (d _ _ a).1 (d _ _ a).2)
 |addr a g=>
  obtain⟨h,i,_⟩:=o _ _ a;exact .addr h (by rw[i];exact g.sm (d _ _ a).1 (d _ _ a).2)
 |mZ id C=>exact .mZ id C
 |view a g e f E=>
  obtain⟨h,i,_⟩:=o _ _ a;exact .view h (by rw[i];exact g.sm (d _ _ a).1 (d _ _ a).2) e f E
 |@app id C τ av an m am T ap U f2 b a N g J e H f V ad O=>
  obtain⟨h,i,R⟩:=o _ _ a;obtain⟨Q,A⟩:=d _ _ a;have I:∀c∈f2,dm r t c:=λc k=>ae;refine .app h N (by rw[i];exact g.sm Q A) J (e.mono n (λc k=>A c (H c k))) ae (f.mono n I) ?_ ?_ O
  ·grind
  grind
 |ent a g k M K L=>
  obtain⟨h,i,R⟩:=o _ _ a;exact .ent h (by rw[i];exact g.sm (d _ _ a).1 (d _ _ a).2) ae (by rw[((d _ _ a).2 _ k).2];exact M) K L
 |fx p _ l=>exact .fx p (λq j b e f=>l q j b e f)
 |agg p _ l=>exact .agg p (λq j b e f=>l q j b e f)
 |eG p _ l=>exact .eG p (λq j b e f=>l q j b e f)
 |hY k G P _ l=>exact .hY (n _ _ k).1 (by rw[((n _ _ k).2.1 0).1];exact G) P l
def aX (c:bp (X×ao)):bO->ao
 |.tmp g=>gt c g
 |.const (.int d e)=>.val (.int d) e
 |.const (.bool a)=>.val .bool a
 |.const (.string f)=>.val .str f
 |.const h=>.eI h
 |.func b=>.eG b []
 |.global _=>.dead
def c0.int {c:eM->X->Prop} {g:bF} {e:bp (X×aI)} {f:X->amo} {d:X->amu} (a:cn) (b:Z):c0 c g e f d (.val (.int a) b) (.int a b):=
 .val (τ:=.int a) (cs:=[.int a b]) ⟨bq,bq⟩
def c0.bool {b:eM->X->Prop} {f:bF} {d:bp (X×aI)} {e:X->amo} {c:X->amu} (a:bD):c0 b f d e c (.val .bool a) (.bool a):=
 .val (τ:=.bool) (cs:=[.bool a]) ⟨bq,bq⟩
def c0.str {b:eM->X->Prop} {f:bF} {d:bp (X×aI)} {e:X->amo} {c:X->amu} (a:ByteArray):c0 b f d e c (.val .str a) (.string a):=
 .val (τ:=.str) (cs:=[.string a]) ⟨bq,bq⟩
def cW.aX {e:fg} {c:aR} {a:Act} {l:bF} {f:X->Prop} {j:X->amo} {i:X->amu} (m:cW e c a.tmps l f j i) (d:bO):c0 (bi f e.B) l c.h j i (aX c.g d) (a.eval d):=by
 cases d with
 |tmp o=>exact m.tmp o
 |const p=>
  cases p<;>simp only[j5.aX,Act.eval]
  case int k n=>exact .int k n
  case bool b=>exact .bool b
  case string s=>exact .str s
  all_goals exact .eI _
 |func q=>exact .eG (vs:=#[]) ac ac
 |global r=>exact .dead _
theorem lp {d:Type}:∀(c b:bp (X×d)) (a:X),ax (c++b) a=(ax c a).or (ax b a)
 |[],b,a=>by simp[ax]
 |(k,v)::c,b,a=>by rw[kR,eJ,eJ,lp c b a];grind
theorem jC (c:X) (b:ao) (d:bp (X×ao)) (a:X):gt ((c,b)::d) a=if c=a then b else gt d a:=by grind [eJ,gt]
theorem cW.put (a:cW S z N f i o p) (e:S.ok b) {av:ao} {v:Value} (l:c0 (bi i S.B) f z.h o p av v):cW S ⟨(b,av)::z.g,z.h⟩ (N.setIfInBounds b v) f i o p where
 n:=by simpa using a.n
 i0:=a.i0
 i1:=a.i1
 ib:=a.ib
 tree:=a.tree
 dis:=a.dis
 tmp:=λc=>by
  show c0 _ _ _ _ _ (gt ((b,av)::z.g) c) _;unfold gt;rw[eJ];have k:b<N.size:=(by rw[a.n];exact e.1);by_cases d:b=c
  ·simp_all
  rw[aw d];have:(N.setIfInBounds b v).getD c bY=N.getD c undef:=ag;rw[this];exact a.tmp c
 frame:=a.frame
 evo:=a.evo
 size:=a.size
 os:=a.os
 tape:=a.tape
 output:=a.output
 pin:=λc d=>by have:b≠c:=λj=>e.2 (j▸d);rw[<-a.pin c d];simp_all
structure xv (C:fg) (st:aR) (w w':bF) (I':X->Prop) (new:bp (X×aI)) (rtn:X->amo) (fpn:X->amu):Prop where
 tree:∀id t,ax new id=Y t->ax st.h id=br/\aW (bi I' C.B) w' t.1 (rtn id) t.2 (fpn id)/\(fpn id).Nodup/\∀b∈fpn id,w.heap.size<=b/\b<w'.heap.size/\¬I' b
 dis:∀i j t u,ax new i=Y t->ax new j=Y u->i≠j->∀b∈fpn i,b∉fpn j
def xv.nil:xv S z f l i [] o p:=
 ⟨(λ_ _ a=>by cases a),(λ_ _ _ _ a=>by cases a)⟩
theorem xv.one {C:fg} {st:aR} {e w':bF} {I':X->Prop} {id:X} {t:aI} {cs:amo} {f:amu} (m:ax st.h id=br) (n:aW (bi I' C.B) w' t.1 cs t.2 f) (k:f.Nodup) (j:∀a∈f,e.heap.size<=a/\a<w'.heap.size/\¬I' a):xv C st e w' I' [(id,t)] (λ_=>cs) (λ_=>f) where
 tree:=λg i b=>by
  rw[eJ] at b;split at b
  ·grind
  cases b
 dis:=λg o p i c d l=>by
  rw[eJ] at c d;split at c
  ·split at d
   ·omega
   cases d
  cases c
def fC (d:bp (X×aI)) {a:Type} (b c:X->a):X->a:=λid=>match ax d id with|some _=>b id|none=>c id
theorem cW.ext {I':X->Prop} {rtn:X->amo} {fpn:X->amu} (d:cW S z N f i o p) (e:hL f l) (y:∀a,i a->I' a) (A:∀a,I' a->i a\/(f.heap.size<=a/\a<l.heap.size)) {new:bp (X×aI)} (s:xv S z f l I' new rtn fpn):cW S ⟨z.g,new++z.h⟩ N l I' (fC new rtn o) (fC new fpn p):=by
 have I:∀w a,bi i S.B w a->bi I' S.B w a/\dm f l a:=λw a b=>by
  refine⟨?_,.of_heap (e.heap a (d.ib a (nP b)))⟩;cases w
  ·exact y a b
  exact b.imp (y a) id
 have T:∀id c,ax z.h id=Y c->ax (new++z.h) id=Y c/\fC new rtn o id=o id/\fC new fpn p id=p id:=λid c k=>by
  have:ax new id=br:=by
   cases P:ax new id with
   |none=>rfl
   |some m=>have:=(s.tree id m P).1;grind
  grind [lp,fC]
 have C:∀id c,ax (new++z.h) id=Y c->(ax new id=Y c/\fC new rtn o id=rtn id/\fC new fpn p id=fpn id)\/(ax z.h id=Y c/\fC new rtn o id=o id/\fC new fpn p id=p id):=λid c k=>(by grind [lp,ax,fC]);have J:∀id c,ax z.h id=Y c->∀a∈p id,dm f l a:=λid c k a b=>.of_heap (e.heap a ((d.tree id c k).2.2 a b).2.2.1);refine{n:=d.n,i0:=λa b=>y a (d.i0 a b),i1:=?_,ib:=?_,tree:=?_,dis:=?_,tmp:=?_,frame:=?_,evo:=λa b=>(d.evo a b).trans (.of_heap (e.heap a (jS b d.size))),size:=eE d.size e.size,os:=e.os.trans d.os,tape:=e.tape.trans d.tape,output:=e.output.trans d.output,pin:=d.pin}
 ·intro a b;rcases A a b with b|⟨b,_⟩
  ·exact d.i1 a b
  exact .inr (.inl (eE d.size b))
 ·intro a b;rcases b with b|b
  ·rcases A a b with b|⟨_,b⟩
   ·exact jS (d.ib a (.inl b)) e.size
   omega
  exact jS (d.ib a (.inr b)) e.size
 ·intro id c k;rcases C id c k with⟨j,x,q⟩|⟨j,x,q⟩
  ·obtain⟨_,aB,D,E⟩:=s.tree id c j;rw[x,q];refine⟨aB,D,λa b=>?_⟩;obtain⟨F,G,H⟩:=E a b;exact⟨H,λM=>by have:=d.ib a (.inr M);omega,G,.inl (eE d.size F)⟩
  obtain⟨aB,D,E⟩:=d.tree id c j;rw[x,q];refine⟨aB.mono I (J id c j),D,λa b=>?_⟩;obtain⟨F,G,H,aY⟩:=E a b;exact⟨λr=>(A a r).elim F (λV=>by omega),G,jS H e.size,aY⟩
 ·intro t u c m Q R K a b;rcases C t c Q with⟨j,_,q⟩|⟨j,_,q⟩<;>rcases C u m R with⟨v,_,L⟩|⟨v,_,L⟩<;>rw[q] at b<;>rw[L]
  ·exact s.dis t u c m j v K a b
  ·intro r;have:=((s.tree t c j).2.2.2 a b).1;have:=((d.tree u m v).2.2 a r).2.2.1;omega
  ·intro r;have:=((s.tree u m v).2.2.2 a r).1;have:=((d.tree t c j).2.2 a b).2.2.1;omega
  exact d.dis t u c m j v K a b
 ·intro U;exact(d.tmp U).mono I (λid c k=>⟨(d.tree id c k).1,J id c k⟩) T
 intro a b O;rw[e.heap a (jS b d.size)];exact d.frame a b O
def cW.Zg (a:cW S z N f i o p) (b:hL f l):cW S z N l i o p:=by have:=a.ext (rtn:=o) (fpn:=p) b (λ_ a=>a) (λ_ a=>.inl a) (new:=[]) .nil;exact this
def pX:bp (X×ao)->aR->Prop
 |[],_=>True
 |(k,av)::r,st=>gt st.g k=av/\pX r st
def pY:bp (X×aI)->aR->Prop
 |[],_=>True
 |(k,t)::r,st=>ax st.h k=Y t/\pY r st
def pX.get (b:pX U z):∀a,gt U a=.dead\/gt U a=gt z.g a:=by
 induction U with
 |nil=>exactλa=>.inl bq
 |cons e U d=>
  obtain⟨h,f⟩:=e;intro a;rw[jC];split
  ·rename_i c;subst c;exact .inr b.1.symm
  exact d b.2 a
def pY.get (c:pY s z):∀a b,ax s a=Y b->ax z.h a=Y b:=by
 induction s with
 |nil=>intro a b c;cases c
 |cons g s f=>
  obtain⟨j,i⟩:=g;intro a b d;rw[eJ] at d;split at d
  ·rename_i e;subst e;rw[<-d];exact c.1
  exact f c.2 a b d
mutual
def ao.ids:ao->amu
 |.dead|.val _ _|.eI _=>[]
 |.ref id _|.addr id _|.view id _ _ _|.ent id _ _=>[id]
 |.app id _ _ _ c=>id::c
 |.fx a|.agg a|.eG _ a=>ao.pi a
 |.hY b=>b.ids
def ao.pi:bp ao->amu
 |[]=>[]
 |a::b=>a.ids++ao.pi b
end
theorem ao.BS {l:bp ao} {i:X} (a:l[i]?=Y T) {id:X} (b:id∈T.ids):id∈ao.pi l:=by
 induction l generalizing i with
 |nil=>grind
 |cons e d c=>
  grind [ao.pi]
theorem c0.uB {x:eM->X->Prop} {z:bp (X×aI)} {D:X->amo} {y:X->amu} (t:∀B b,e B b->x B b/\dm f l b) (F:c0 e f s o p T Q) (d:∀id∈T.ids,∀w,ax s id=Y w->ax z id=Y w/\D id=o id/\y id=p id/\aW e f w.1 (o id) w.2 (p id)/\∀b∈p id,dm f l b):c0 x l z D y T Q:=by
 induction F with
 |dead Q=>exact .dead Q
 |eI Q=>exact .eI Q
 |val U=>exact .val (U.mono t ac)
 |ref h g=>
  obtain⟨i,j,_,q,k⟩:=d _ (by simp[ao.ids]) _ h;exact .ref i (by rw[j];exact g.sm q k)
 |addr h g=>
  obtain⟨i,j,_,q,k⟩:=d _ (by simp[ao.ids]) _ h;exact .addr i (by rw[j];exact g.sm q k)
 |mZ id C=>exact .mZ id C
 |view h g a c E=>
  obtain⟨i,j,_,q,k⟩:=d _ (by simp[ao.ids]) _ h;exact .view i (by rw[j];exact g.sm q k) a c E
 |@app id C a4 a3 av w ap V a0 ad f2 Q h N g J a H c am an O=>
  obtain⟨i,j,S,R,A⟩:=d _ (by simp[ao.ids]) _ h;have I:∀b∈f2,dm f l b:=λb m=>(by grind [ao.ids]);refine .app i N (by rw[j];exact g.sm R A) J (a.mono t (λb m=>A b (H b m))) ae (c.mono t I) ?_ ?_ O
  ·grind [ao.ids]
  grind [ao.ids]
 |ent h g m M K L=>
  obtain⟨i,j,S,q,k⟩:=d _ (by simp[ao.ids]) _ h;exact .ent i (by rw[j];exact g.sm q k) ae (by rw[(k _ m).2];exact M) K L
 |fx u _ n=>exact .fx u (λv T Q a c=>n v T Q a c (λid r=>d id (ao.BS a r)))
 |agg u _ n=>exact .agg u (λv T Q a c=>n v T Q a c (λid r=>d id (ao.BS a r)))
 |eG u _ n=>exact .eG u (λv T Q a c=>n v T Q a c (λid r=>d id (ao.BS a r)))
 |hY m G P _ n=>exact .hY (t _ _ m).1 (by rw[((t _ _ m).2.1 0).1];exact G) P (n λid r=>d id (by grind [ao.ids]))
def cW.Ar {q:aR} (a:cW S q N f i o p) (v:pX z.g q) (d:pY z.h q) (w:∀c,∀id∈(gt z.g c).ids,(ax z.h id).isSome=bt):cW S z N f i o p where
 n:=a.n
 i0:=a.i0
 i1:=a.i1
 ib:=a.ib
 tree:=λid b e=>a.tree id b (d.get id b e)
 dis:=λs t b j m x=>a.dis s t b j (d.get s b m) (d.get t j x)
 tmp:=λc=>by
  rcases v.get c with l|l
  ·rw[l];exact .dead _
  have:=w c;rw[l] at this|-;refine(a.tmp c).uB (λy k u=>⟨u,dm.refl f k⟩) (λid m b e=>?_);obtain⟨j,r⟩:=HO.1 (this id m);have:=d.get id j r;rw[e] at this;obtain rfl:=gn this;exact⟨r,bq,bq,(a.tree id b e).1,λk _=>dm.refl f k⟩
 frame:=a.frame
 evo:=a.evo
 size:=a.size
 os:=a.os
 tape:=a.tape
 output:=a.output
 pin:=a.pin
def ni (a:bp (X×ao)) (b:bp (X×aI)):bD:=a.all λc=>c.2.ids.all λid=>(ax b id).isSome
theorem ni.get (e:ni U s=bt) (b:X):∀id∈(gt U b).ids,(ax s id).isSome=bt:=by
 intro id a;unfold gt at a;cases c:ax U b with
 |none=>grind [ao.ids]
 |some d=>
  rw[c] at a;have f:(b,d)∈U:=by
   clear e a
   induction U with
   |nil=>cases c
   |cons h i g=>
    grind [an2,am0,eJ]
  grind [anK,ni]
section
mutual
def fD (P:b2):ak->bH->Prop
 |.int f,T=>∃a,P.info? T=Y a/\a.size=1/\a.bytes<=24/\a.zero=Y (.int f 0)/\P.underlying T=Y (.int f)
 |.bool,T=>∃a,P.info? T=Y a/\a.size=1/\a.bytes<=24/\a.zero=Y (.bool bu)/\P.underlying T=Y .bool
 |.str,T=>∃a,P.info? T=Y a/\a.size=1/\a.bytes<=24/\a.zero=Y (.string ao2)/\P.underlying T=Y .string
 |.bc _ b,T|.osl b,T=>∃a E,P.info? T=Y a/\a.size=1/\a.bytes<=24/\a.zero=Y (.slice br 0 0)/\P.underlying T=Y (.slice E)/\fD P b E
 |.ptr _ b,T|.optr b,T=>∃a E,P.info? T=Y a/\a.size=1/\a.bytes<=24/\a.zero=Y (.pointer br)/\P.underlying T=Y (.pointer E)/\fD P b E
 |.st b,T=>0<b.size/\∃a e d,P.info? T=Y a/\a.size=b.size/\a.bytes<=24*b.size/\a.zero=Y (.agg d)/\P.underlying T=Y (.struct e)/\je P b e.toList 0 d.toList/\d.size=b.size
 |.mp b,T|.fd _ b,T=>∃a c E,P.info? T=Y a/\a.size=1/\a.bytes<=24/\a.zero=Y (.map br)/\P.underlying T=Y (.map c E)/\P.underlying c=Y (.int .i64)/\fD P b E
 |.fn _ _,T=>∃a g h i,P.info? T=Y a/\a.size=1/\a.bytes<=24/\a.zero=Y .nilFunc/\P.underlying T=Y (.func g h i)
 |_,_=>b7
def je (P:b2):ak->bp amS->X->amo->Prop
 |.pr a g,c::h,e,b=>c.offset=e/\fD P a c.type/\0<a.size/\(∃d f,P.info? c.type=Y d/\d.zero=Y f/\b.take a.size=f.cells.toList)/\je P g h (e+a.size) (b.drop a.size)
 |.nil,[],_,b=>b=[]
 |_,_,_,_=>b7
end
def p8:ak->bD
 |.st _=>bt
 |_=>bu
structure VI (P:b2) (τ:ak) (T:bH) (i:TypeInfo):Prop where
 info:P.info? T=Y i
 size:i.size=τ.size
 bytes:i.bytes<=24*τ.size
 pos:0<τ.size
def fD.info {P:b2}:∀{τ:ak} {T:bH},fD P τ T->∃a g,VI P τ T a/\P.underlying T=Y g/\(match g with|.struct _|.array _ _=>bt|_=>bu)=p8 τ
 |.int _,_,⟨a,b,c,d,_,e⟩|.bool,_,⟨a,b,c,d,_,e⟩|.str,_,⟨a,b,c,d,_,e⟩|.bc _ _,_,⟨a,_,b,c,d,_,e,_⟩|.osl _,_,⟨a,_,b,c,d,_,e,_⟩|.ptr _ _,_,⟨a,_,b,c,d,_,e,_⟩|.optr _,_,⟨a,_,b,c,d,_,e,_⟩=>⟨a,_,⟨b,c,d,by simp[ak.size]⟩,e,bq⟩
 |.st i,_,⟨h,a,_,_,b,c,d,_,e,_⟩=>⟨a,_,⟨b,c,d,h⟩,e,bq⟩
 |.pr _ _,_,f|.nil,_,f|.eO,_,f=>f.elim
 |.mp _,_,⟨a,_,_,b,c,d,_,e,_⟩|.fd _ _,_,⟨a,_,_,b,c,d,_,e,_⟩|.fn _ _,_,⟨a,_,_,_,b,c,d,_,e⟩=>⟨a,_,⟨b,c,d,by simp[ak.size]⟩,e,bq⟩
theorem fD.Ka {P:b2}:∀{τ:ak} {T:bH},fD P τ T->∃g,g.cells.size=τ.size/\∀d,P.info? T=Y d->d.zero=Y g
 |.int _,_,⟨d,a,_,_,b,_⟩|.bool,_,⟨d,a,_,_,b,_⟩|.str,_,⟨d,a,_,_,b,_⟩=>⟨_,bq,λf c=>by rw[a] at c;cases c;exact b⟩
 |.bc _ _,_,⟨d,_,a,_,_,b,_⟩|.osl _,_,⟨d,_,a,_,_,b,_⟩|.ptr _ _,_,⟨d,_,a,_,_,b,_⟩|.optr _,_,⟨d,_,a,_,_,b,_⟩=>⟨_,bq,λf c=>by rw[a] at c;cases c;exact b⟩
 |.st n,_,⟨j,d,_,i,a,k,l,b,m,_,h⟩=>⟨.agg i,h,λf c=>by grind⟩
 |.pr _ _,_,e|.nil,_,e|.eO,_,e=>e.elim
 |.mp _,_,⟨d,_,_,a,_,_,b,_⟩=>⟨_,bq,λf c=>by rw[a] at c;cases c;exact b⟩
 |.fd _ _,_,⟨d,_,_,a,_,_,b,_⟩=>⟨_,bq,λf c=>by rw[a] at c;cases c;exact b⟩
 |.fn _ _,_,⟨d,_,_,_,a,_,_,b,_⟩=>⟨_,bq,λf c=>by rw[a] at c;cases c;exact b⟩
section
variable {P:b2} {τ:ak} {T:bH}
def fD.sizeOf (c:fD P τ T) (b:bF):(anm T).run P b=.ok τ.size b:=by obtain⟨e,d,a,_⟩:=c.info;simp[anm,am1,a.info,a.size]
def fD.isAgg (c:fD P τ T) (a:bF):(Go.isAgg T).run P a=.ok (p8 τ) a:=by obtain⟨g,b,f,e,d⟩:=c.info;simp only[Go.isAgg,b0,cd e,b4];rw[<-d];cases b<;>rfl
def fD.pos (a:fD P τ T):0<τ.size:=by obtain⟨d,c,b,_⟩:=a.info;exact b.pos
def LJ:∀{τ:ak} {T:bH},fD P τ T->p8 τ=bu->τ.size=1
 |.int _,_,_,_|.bool,_,_,_|.str,_,_,_|.bc _ _,_,_,_|.osl _,_,_,_|.ptr _ _,_,_,_|.optr _,_,_,_|.mp _,_,_,_|.fd _ _,_,_,_|.fn _ _,_,_,_=>rfl
 |.st _,_,_,a=>by cases a
 |.pr _ _,_,a,_|.nil,_,a,_|.eO,_,a,_=>a.elim
def GO {cs:amo} (a:p8 τ=bu):c9 τ cs=cs.headD undef:=by cases τ<;>first|rfl|cases a
def GP {cs:amo} (a:p8 τ=bt):c9 τ cs=.agg cs.toArray:=by cases τ<;>first|rfl|cases a
theorem pp {cs:amo} (d:fD P τ T) (c:cs.length=τ.size) (e:∀a∈cs,a.oneCell'=bt):(c9 τ cs).cells=cs.toArray:=by
 cases b:p8 τ with
 |true=>rw[GP b];rfl
 |false=>
  rw[GO b];rw[LJ d b] at c;obtain⟨a,rfl⟩:=qB.1 c;have:=e a ac;cases a<;>first|rfl|grind [amQ]
theorem Mc {w:bF} {b o:X} {cs:amo} (a:fD P τ T) (e:fG w b o cs) (c:cs.length=τ.size):(loadVar T ⟨b,o,br⟩).run P w=.ok (c9 τ cs) w:=by
 simp only[loadVar,b0,a.isAgg,b4];cases g:p8 τ with
 |true=>
  simp only[cq,b0,a.sizeOf,b4];rw[<-c,run_loadCells_list w ⟨b,o,br⟩ cs (λh d f=>by rw[anw];exact e h d f)];simp_all [GP]
 |false=>
  rw[LJ a g] at c;obtain⟨d,rfl⟩:=qB.1 c;have:=e 0 d bq;simp_all [GO,m4]
end
def m0:(τ:ak)->bv τ.den
 |.int _=>Y (0:Z)
 |.bool=>Y bu
 |.str=>Y ao2
 |.bc _ _|.osl _=>Y []
 |.ptr _ _=>Y br
 |.optr _=>br
 |.st c=>m0 c
 |.pr a b=>match m0 a,m0 b with|some d,some e=>Y (d,e)|_,_=>br
 |.nil=>Y ()
 |.eO=>br
 |.mp _|.fd _ _=>Y br
 |.fn _ _=>br
mutual
theorem w9 {P:b2}:∀{τ:ak} {T:bH} {g:τ.den},fD P τ T->m0 τ=Y g->∃b l,P.info? T=Y b/\b.zero=Y l/\l=c9 τ l.cells.toList/\∀(e:eM->X->Prop) (f:bF),aW e f τ l.cells.toList g []
 |.int p,_,g,⟨b,c,h,i,d,j⟩,a=>⟨b,_,c,d,bq,λe f=>by cases a;exact⟨bq,bq⟩⟩
 |.bool,_,g,⟨b,c,h,i,d,j⟩,a=>⟨b,_,c,d,bq,λe f=>by cases a;exact⟨bq,bq⟩⟩
 |.str,_,g,⟨b,c,h,i,d,j⟩,a=>⟨b,_,c,d,bq,λe f=>by cases a;exact⟨bq,bq⟩⟩
 |.bc _ _,_,g,⟨b,_,c,h,i,d,j,_⟩,a=>⟨b,_,c,d,bq,λe f=>by cases a;exact⟨bq,br,0,bq,bf _,λ_=>rfl,.inl bq⟩⟩
 |.osl _,_,g,⟨b,_,c,h,i,d,j,_⟩,a=>⟨b,_,c,d,bq,λe f=>by cases a;exact⟨br,0,bq,.inl ⟨bq,bq,bq,bq⟩⟩⟩
 |.ptr _ _,_,g,⟨b,_,c,h,i,d,j,_⟩,a=>⟨b,_,c,d,bq,λe f=>by cases a;exact⟨bq,bq⟩⟩
 |.optr _,_,_,_,a=>by cases a
 |.st n,_,g,⟨_,b,o,q,c,h,i,d,j,m,_⟩,a=>⟨b,_,c,d,bq,λe f=>UW (τ:=n) m a e f⟩
 |.pr _ _,_,_,k,_|.nil,_,_,k,_|.eO,_,_,k,_=>k.elim
 |.mp _,_,g,⟨b,_,_,c,h,i,d,j,_⟩,a=>⟨b,_,c,d,bq,λe f=>by cases a;exact⟨bq,bq⟩⟩
 |.fd _ _,_,g,⟨b,_,_,c,h,i,d,j,_⟩,a=>⟨b,_,c,d,bq,λe f=>by cases a;exact⟨bq,bq⟩⟩
 |.fn _ _,_,_,_,a=>by cases a
theorem UW {P:b2}:∀{τ:ak} {l:bp amS} {g:X} {f:amo} {e:τ.den},je P τ l g f->m0 τ=Y e->∀(b:eM->X->Prop) (d:bF),aW b d τ f e []
 |.pr j k,r::x,g,f,e,a,c,b,d=>by
  obtain⟨s,m,t,⟨u,B,aB,q,w⟩,n⟩:=a;simp only[m0] at c;split at c
  ·rename_i z A o p;cases c;obtain⟨v,C,h,i,_,y⟩:=w9 (τ:=j) m o;rw[aB] at h;obtain rfl:=gn h;rw[q] at i;obtain rfl:=gn i;exact⟨[],[],bq,ae,UW (τ:=k) n p b d⟩
  grind
 |.nil,[],_,f,e,a,c,b,d=>⟨bq,a⟩
 |.pr _ _,[],_,_,_,a,_,_,_|.nil,_::_,_,_,_,a,_,_,_=>a.elim
 |.int _,_,_,_,_,a,_,_,_|.bool,_,_,_,_,a,_,_,_|.str,_,_,_,_,a,_,_,_|.bc _ _,_,_,_,_,a,_,_,_|.osl _,_,_,_,_,a,_,_,_|.ptr _ _,_,_,_,_,a,_,_,_|.optr _,_,_,_,_,a,_,_,_|.st _,_,_,_,_,a,_,_,_|.eO,_,_,_,_,a,_,_,_|.mp _,_,_,_,_,a,_,_,_|.fd _ _,_,_,_,_,a,_,_,_|.fn _ _,_,_,_,_,a,_,_,_=>by cases a
end
def bg:ak->ak->bD
 |.int g,.int h=>if g=h then bt else bu
 |.bool,.bool|.str,.str|.nil,.nil=>bt
 |.bc _ a,.bc _ b|.bc _ a,.osl b|.osl a,.bc _ b|.osl a,.osl b|.ptr _ a,.ptr _ b|.ptr _ a,.optr b|.optr a,.ptr _ b|.optr a,.optr b|.st a,.st b|.mp a,.mp b|.mp a,.fd _ b|.fd _ a,.mp b|.fd _ a,.fd _ b=>bg a b
 |.fn _ _,.fn _ _=>bt
 |.pr c d,.pr e f=>bg c e&&bg d f
 |_,_=>bu
theorem bg.size:∀{τ b:ak},bg τ b=bt->τ.size=b.size:=by
 intro τ
 induction τ with
 |st h c=>intro b a;cases b<;>simp only[bg] at a<;>first|(simp only[ak.size];exact c a)|cases a
 |pr d e f g=>
  intro b a;cases b<;>simp only[bg] at a<;>try (cases a;done)
  simp only[cJ] at a;grind [ak.size]
 |_=>intro b a;cases b<;>simp[bg] at a<;>simp[ak.size]
mutual
theorem fD.lay {P:b2}:∀{τ c:ak} {T:bH},bg τ c=bt->fD P τ T->fD P c T
 |.int q,c,_,a,b=>by cases c<;>simp[bg] at a;grind
 |.bool,c,_,a,b|.str,c,_,a,b=>by grind [bg]
 |.bc _ k,c,_,a,b=>by obtain⟨h,E,d,i,j,e,f,g⟩:=b;cases c<;>simp only[bg] at a<;>first|exact⟨h,E,d,i,j,e,f,fD.lay a g⟩|cases a
 |.osl k,c,_,a,b=>by obtain⟨h,E,d,i,j,e,f,g⟩:=b;cases c<;>simp only[bg] at a<;>first|exact⟨h,E,d,i,j,e,f,fD.lay a g⟩|cases a
 |.ptr _ k,c,_,a,b=>by obtain⟨h,E,d,i,j,e,f,g⟩:=b;cases c<;>simp only[bg] at a<;>first|exact⟨h,E,d,i,j,e,f,fD.lay a g⟩|cases a
 |.optr k,c,_,a,b=>by obtain⟨h,E,d,i,j,e,f,g⟩:=b;cases c<;>simp only[bg] at a<;>first|exact⟨h,E,d,i,j,e,f,fD.lay a g⟩|cases a
 |.st k,c,_,a,b=>by
  obtain⟨p,h,n,o,d,i,j,e,f,g,l⟩:=b;cases c<;>simp only[bg] at a<;>try (cases a;done)
  have:=bg.size a;exact⟨aa,h,n,o,d,aa,aa,e,f,je.lay a g,aa⟩
 |.pr _ _,_,_,_,b|.nil,_,_,_,b|.eO,_,_,_,b=>b.elim
 |.mp k,c,_,a,b=>by obtain⟨h,m,E,d,i,j,e,f,g,l⟩:=b;cases c<;>simp only[bg] at a<;>first|exact⟨h,m,E,d,i,j,e,f,g,fD.lay a l⟩|cases a
 |.fd _ k,c,_,a,b=>by obtain⟨h,m,E,d,i,j,e,f,g,l⟩:=b;cases c<;>simp only[bg] at a<;>first|exact⟨h,m,E,d,i,j,e,f,g,fD.lay a l⟩|cases a
 |.fn _ _,c,_,a,b=>by cases c<;>simp only[bg] at a<;>first|exact b|cases a
theorem je.lay {P:b2}:∀{τ c:ak} {f:bp amS} {d:X} {e:amo},bg τ c=bt->je P τ f d e->je P c f d e
 |.pr k l,c,m::o,d,e,b,a=>by
  obtain⟨g,h,n,i,j⟩:=a;cases c<;>simp only[bg] at b<;>try (cases b;done)
  simp only[cJ] at b;have:=bg.size b.1;exact⟨g,fD.lay b.1 h,aa,by rw[<-this];exact i,by rw[<-this];exact je.lay b.2 j⟩
 |.nil,c,[],_,_,b,a=>by grind [bg]
 |.pr _ _,_,[],_,_,_,a|.nil,_,_::_,_,_,_,a=>a.elim
 |.int _,_,_,_,_,_,a|.bool,_,_,_,_,_,a|.str,_,_,_,_,_,a|.bc _ _,_,_,_,_,_,a|.osl _,_,_,_,_,_,a|.ptr _ _,_,_,_,_,_,a|.optr _,_,_,_,_,_,a|.st _,_,_,_,_,_,a|.eO,_,_,_,_,_,a|.mp _,_,_,_,_,_,a=>by cases a
end
structure vr where
 b:X
 T:bH
 k:cn
 xs:amv
def Nk (P:b2) (a:vr):Prop:=∃b,P.underlying a.T=Y (.array a.xs.length b)/\fD P (.int a.k) b
def M3 (P:b2) (T:bH):Prop:=P.stoodInHeld T=bu/\P.eqGuardType P.depth T=bu/\∃a,P.underlying T=Y (.struct a)/\(a.toList.all λb=>b.name !="_")=bt
structure fP where
 P:b2
 tt:bp (bH×ak)
 ok:∀T τ,ax tt T=Y τ->fD P τ T
 mix:P.follows .mixedOrders=bt
 glob:bp vr:=[]
 gok:∀g∈glob,Nk P g:=by intro g h;cases h
 eqs:eC:=[]
 eqok:∀T∈eqs,M3 P T:=by intro T h;cases h
end
section
def hR:X:=4294967296
def az {b:Type} (c:bp b) (a:Z):bv b:=if 0<=a then c[a.toNat]? else br
theorem PR {b:bp x} {a:Z} {c:x} (d:az b a=Y c):a=(a.toNat:Z)/\a.toNat<b.length/\b[a.toNat]?=Y c:=by grind [anL,az]
inductive iy where
 |ff (av:ao) (new:bp (X×aI))
 |part (α:Type) (φ:α->Prop) (f:α->ao×bp (X×aI))
 |bad
def iy.K (e:iy) (Q:ao->bp (X×aI)->Prop):Prop:=
 match e with
 |.ff c d=>Q c d
 |.part f g b=>∃a:f,g a/\Q (b a).1 (b a).2
 |.bad=>b7
def ak.pure:ak->bD
 |.osl _|.optr _|.eO|.mp _=>bu
 |.st c=>c.pure
 |.pr a b=>a.pure&&b.pure
 |_=>bt
def fE:ak->bp a6->bv ak
 |τ,[]=>Y τ
 |.osl c,.idx _::b|.optr c,.deref::b|.mp c,.deref::b|.st c,.unst::b=>fE c b
 |.pr a _,.fst::b=>fE a b
 |.pr _ d,.snd::b=>fE d b
 |_,_=>br
def fS:ak->X->bv (bp a6×ak)
 |.pr a _,0=>Y ([.fst],a)
 |.pr _ c,d+1=>match fS c d with|some b=>Y (.snd::b.1,b.2)|none=>br
 |_,_=>br
def fO:ak->X->X
 |.pr _ _,0=>0
 |.pr a b,c+1=>a.size+fO b c
 |_,_=>0
def sp:(e:ak)->e.den->X->bv aI
 |.pr a _,b,0=>Y ⟨a,b.1⟩
 |.pr _ c,b,d+1=>sp c b.2 d
 |_,_,_=>br
theorem JQ {h:b2}:∀{τ:ak} {j:bp amS} {f:X} {g:amo} {e:X} {s:bp a6} {τf:ak},je h τ j f g->fS τ e=Y (s,τf)->∃c,j[e]?=Y c/\c.offset=f+fO τ e/\fD h τf c.type
 |.pr a i,c::m,f,g,0,s,τf,d,b=>by simp only[fS,e9,iN] at b;obtain⟨rfl,rfl⟩:=b;exact⟨c,bq,by rw[d.1];rfl,d.2.1⟩
 |.pr a i,c::m,f,g,e+1,s,τf,d,b=>by
  simp only[fS] at b;split at b
  ·rename_i k l;simp only[e9,iN] at b;obtain⟨rfl,rfl⟩:=b;obtain⟨n,o,p,q⟩:=JQ (τ:=i) d.2.2.2.2 (s:=k.1) (τf:=k.2) l;grind [fO]
  grind
 |.pr _ _,[],_,_,_,_,_,d,_=>d.elim
 |.int _,_,_,_,_,_,_,_,b|.bool,_,_,_,_,_,_,_,b|.str,_,_,_,_,_,_,_,b|.bc _ _,_,_,_,_,_,_,_,b|.osl _,_,_,_,_,_,_,_,b|.ptr _ _,_,_,_,_,_,_,_,b|.optr _,_,_,_,_,_,_,_,b|.st _,_,_,_,_,_,_,_,b|.nil,_,_,_,_,_,_,_,b|.eO,_,_,_,_,_,_,_,b=>by cases b
theorem JT:∀{τ:ak} {e:τ.den} {d:X} {c:aI},sp τ e d=Y c->∃g,fS τ d=Y (g,c.1)
 |.pr a f,e,0,c,b=>by simp only[sp,e9] at b;subst b;exact⟨_,bq⟩
 |.pr a f,e,d+1,c,b=>by obtain⟨g,h⟩:=JT (τ:=f) b;grind [fS]
 |.int _,_,_,_,b|.bool,_,_,_,b|.str,_,_,_,b|.bc _ _,_,_,_,b|.osl _,_,_,_,b|.ptr _ _,_,_,_,b|.optr _,_,_,_,b|.st _,_,_,_,b|.nil,_,_,_,b|.eO,_,_,_,b=>by cases b
theorem yr:∀{τ:ak} {c:X} {s:bp a6} {tf:ak},fS τ c=Y (s,tf)->fO τ c+tf.size<=τ.size
 |.pr a d,0,s,tf,b=>by simp only[fS,e9,iN] at b;obtain⟨_,rfl⟩:=b;simp[fO,ak.size]
 |.pr a d,c+1,s,tf,b=>by
  simp only[fS] at b;split at b
  ·rename_i e f;simp only[e9,iN] at b;obtain⟨_,rfl⟩:=b;have:=yr (τ:=d) (s:=e.1) (tf:=e.2) f;grind [fO,ak.size]
  grind
 |.int _,_,_,_,b|.bool,_,_,_,b|.str,_,_,_,b|.bc _ _,_,_,_,b|.osl _,_,_,_,b|.ptr _ _,_,_,_,b|.optr _,_,_,_,b|.st _,_,_,_,b|.nil,_,_,_,b|.eO,_,_,_,b=>by cases b
theorem JS {h:eM->X->Prop} {w:bF}:∀{τ:ak} {e:τ.den} {d:X} {c:aI} {cs:amo},aW h w τ cs e []->sp τ e d=Y c->aW h w c.1 ((cs.drop (fO τ d)).take c.1.size) c.2 []/\fO τ d+c.1.size<=τ.size
 |.pr a i,e,0,c,cs,g,b=>by simp only[sp,e9] at b;subst b;obtain⟨f,f2,l,k,j⟩:=g;obtain⟨rfl,rfl⟩:f=[]/\f2=[]:=ag;grind [fO,ak.size]
 |.pr a i,e,d+1,c,cs,g,b=>by obtain⟨f,f2,l,k,j⟩:=g;obtain⟨rfl,rfl⟩:f=[]/\f2=[]:=ag;obtain⟨m,n⟩:=JS (τ:=i) j b;grind [List.drop_drop,fO,ak.size]
 |.int _,_,_,_,_,_,b|.bool,_,_,_,_,_,b|.str,_,_,_,_,_,b|.bc _ _,_,_,_,_,_,b|.osl _,_,_,_,_,_,b|.ptr _ _,_,_,_,_,_,b|.optr _,_,_,_,_,_,b|.st _,_,_,_,_,_,b|.nil,_,_,_,_,_,b|.eO,_,_,_,_,_,b=>by cases b
theorem aZ.gK {w:bF} {a:Loc} {cs:amo}:aZ w d v cs [] q a u↔d=q/\v=a/\cs=u:=by cases d<;>exact aou
theorem aZ.append {w:bF}:∀{p c:bp a6} {τ r u:ak} {m n q:Loc} {cs k l:amo},aZ w τ m cs p r n k->aZ w r n k c u q l->aZ w τ m cs (p++c) u q l
 |[],c,τ,_,_,_,_,_,_,_,_,a,b=>by grind [aZ.gK]
 |s::p,c,τ,_,_,_,_,_,_,_,_,a,b=>by
  cases τ<;>cases s<;>simp only[aZ] at a
  case osl.idx t i=>
   obtain⟨d,o,y,v,e,f,g,h,j,x⟩:=a;exact⟨d,o,y,v,e,f,g,h,j,x.append b⟩
  case optr.deref t=>
   obtain⟨d,o,e,f,g,h,j⟩:=a;exact⟨d,o,e,f,g,h,j.append b⟩
  case st.unst t=>exact aZ.append (p:=p) (τ:=t) a b
  case pr.fst t1 t2=>exact aZ.append (p:=p) (τ:=t1) a b
  case pr.snd t1 t2=>exact aZ.append (p:=p) (τ:=t2) a b
theorem aZ.here {w:bF} {cs:amo}:aZ w d v cs [] d v cs:=by cases d<;>exact⟨bq,bq,bq⟩
def aZ.ty {w:bF}:∀{p:bp a6} {τ c:ak} {l m:Loc} {cs e:amo},aZ w τ l cs p c m e->fE τ p=Y c
 |[],τ,_,_,_,_,_,a=>by obtain⟨rfl,_⟩:=aZ.gK.1 a;cases τ<;>rfl
 |s::p,τ,_,_,_,_,_,a=>by
  cases τ<;>cases s<;>simp only[aZ] at a
  case osl.idx t i=>obtain⟨d,o,q,n,f,g,h,j,b,k⟩:=a;exact k.ty
  case optr.deref t=>obtain⟨d,o,f,g,h,j,b⟩:=a;exact b.ty
  case st.unst t=>exact aZ.ty (p:=p) (τ:=t) a
  case pr.fst t1 t2=>exact aZ.ty (p:=p) (τ:=t1) a
  case pr.snd t1 t2=>exact aZ.ty (p:=p) (τ:=t2) a
theorem aZ.at {w:bF}:∀{p:bp a6} {τ q:ak} {f n:Loc} {cs g:amo},aZ w τ f cs p q n g->cs.length=τ.size->(∀b o,f=Y (b,o)->fG w b o cs)->g.length=q.size/\∀b o,n=Y (b,o)->fG w b o g
 |[],τ,_,_,_,_,_,c,m,e=>by grind [aZ.gK]
 |s::p,τ,_,f,_,cs,_,c,m,e=>by
  cases τ<;>cases s<;>simp only[aZ] at c
  case osl.idx t i=>
   obtain⟨b,o,z,y,r,u,j,k,l,v⟩:=c;exact v.at k (λh x d=>by grind)
  case optr.deref t=>
   obtain⟨b,o,r,u,j,k,l⟩:=c;exact l.at j (λh x d=>by grind)
  case st.unst t=>exact aZ.at (τ:=t) c m e
  case pr.fst a b=>
   exact aZ.at (τ:=a) c (by grind [ak.size]) (λb o d=>(e b o d).take)
  case pr.snd a b=>
   refine aZ.at (τ:=b) c (by grind [ak.size]) (λh o d=>?_);cases f with
   |none=>grind
   |some A=>
    simp only[jT,e9,iN] at d;obtain⟨rfl,rfl⟩:=d;exact(e _ _ rfl).drop
theorem aZ.FG {w:bF}:∀{τ:ak} {e:X} {s:bp a6} {τf:ak} {l:Loc} {cs:amo},fS τ e=Y (s,τf)->aZ w τ l cs s τf (l.map λc=>(c.1,c.2+fO τ e)) ((cs.drop (fO τ e)).take τf.size)
 |.pr a f,0,s,τf,l,cs,d=>by simp only[fS,e9,iN] at d;obtain⟨rfl,rfl⟩:=d;simp_all [nC,aZ,fO]
 |.pr a f,e+1,s,τf,l,cs,d=>by
  simp only[fS] at d;split at d
  ·rename_i c g;simp only[e9,iN] at d;obtain⟨rfl,rfl⟩:=d;have:=aZ.FG (w:=w) (τ:=f) (s:=c.1) (τf:=c.2) (l:=l.map λc=>(c.1,c.2+a.size)) (cs:=cs.drop a.size) g;simp only[aZ,fO];rw[td] at this;cases l with
   |none|some h=>grind
  grind
 |.int _,_,_,_,_,_,b|.bool,_,_,_,_,_,b|.str,_,_,_,_,_,b|.bc _ _,_,_,_,_,_,b|.osl _,_,_,_,_,_,b|.ptr _ _,_,_,_,_,_,b|.optr _,_,_,_,_,_,b|.st _,_,_,_,_,_,b|.nil,_,_,_,_,_,b|.eO,_,_,_,_,_,b=>by cases b
theorem e2.uniq:∀{p:bp a6} {τ:ak} {e:τ.den} {c:ak} {f g:c.den},e2 τ e p c f->e2 τ e p c g->f=g
 |[],τ,_,_,_,_,a,b=>by grind [e2.gK]
 |s::p,τ,_,_,_,_,a,b=>by
  cases τ<;>cases s<;>simp only[e2] at a b
  case osl.idx=>
   obtain⟨i,h,a⟩:=a;obtain⟨j,d,b⟩:=b;rw[h] at d;obtain rfl:=gn d;exact a.uniq b
  case optr.deref=>exact e2.uniq (p:=p) a b
  case st.unst=>exact e2.uniq (p:=p) a b
  case pr.fst=>exact e2.uniq (p:=p) a b
  case pr.snd=>exact e2.uniq (p:=p) a b
def Yields (E:fP) (C:fg) (st:aR) (a:Act) (w:bF) (I:X->Prop) (rt:X->amo) (fp:X->amu) (o:bU) (Q:ao->bp (X×aI)->Prop):Prop:=
 ∃j d e i g f c,(bP a.eval o).run E.P w=.ok (.value j) d/\hL w d/\(∀b,I b->e b)/\(∀b,e b->I b\/(w.heap.size<=b/\b<d.heap.size))/\xv C st w d e c i g/\c0 (bi e C.B) d (c++st.h) (fC c i rt) (fC c g fp) f j/\Q f c
section
variable {E:fP} {C:fg} {st:aR} {a:Act} {w:bF} {I:X->Prop} {rt:X->amo} {fp:X->amu} {o:bU} {Q:ao->bp (X×aI)->Prop}
def Yields.pure {v:Value} (d:(bP a.eval o).run E.P w=.ok (.value v) w) (e:c0 (bi I C.B) w st.h rt fp T v) (c:Q T []):Yields E C st a w I rt fp o Q:=
 ⟨v,w,I,rt,fp,T,[],d,.refl w,λ_ b=>b,λ_ b=>.inl b,.nil,e,c⟩
def Yields.wp (t:cW C st a.tmps w I rt fp) (k:Yields E C st a w I rt fp o Q) {next:Act->bF->Prop} {j:b8->Act->bF->Prop} {f:X} (u:o.dst=Y f) (v:C.ok f) (x:∀b c e d,Q b c->e.defers=a.defers->g0 C ⟨(f,b)::st.g,c++st.h⟩ e.tmps d->next e d):o.wp E.P a w next j:=by
 obtain⟨y,d,i,A,z,b,c,l,m,n,p,q,r,s⟩:=k;unfold amH;rw[l];show next (a.put o.dst y) d
 rw[u];exact x b c _ _ s bq ⟨i,_,_,(t.ext m n p q).put v r⟩
def mH (h:BinOp) (a:cn) (d:Z) (g:cn) (b:Z):iy:=
 let c (i:Prop) (f:Z):iy:=if a=g then .part Z (λc=>i/\f=c) (λc=>(.val (.int a) c,[])) else .bad
 let e (f:bD):iy:=if a=g then .ff (.val .bool f) [] else .bad
 match h with
 |.add=>c True (a.wrap (d+b))
 |.sub=>c True (a.wrap (d-b))
 |.mul=>c True (a.wrap (d*b))
 |.quo=>c (b≠0) (a.wrap (d.tdiv b))
 |.rem=>c (b≠0) (d.tmod b)
 |.and=>c True (a.wrap (cl a.bits d&&&cl a.bits b).toNat)
 |.or=>c True (a.wrap (cl a.bits d|||cl a.bits b).toNat)
 |.xor=>c True (a.wrap (cl a.bits d^^^cl a.bits b).toNat)
 |.andNot=>c True (a.wrap (cl a.bits d&&&~~~cl a.bits b).toNat)
 |.shl=>.part Z (λc=>0<=b/\a.wrap (d*2^min b.toNat a.bits)=c) (λc=>(.val (.int a) c,[]))
 |.shr=>.part Z (λc=>0<=b/\d.fdiv (2^min b.toNat a.bits)=c) (λc=>(.val (.int a) c,[]))
 |.eql=>e (d==b)
 |.neq=>e (d !=b)
 |.lss=>e (bw (d<b))
 |.leq=>e (bw (d<=b))
 |.gtr=>e (bw (d>b))
 |.geq=>e (bw (d>=b))
def Ip (c:BinOp) (a b:ao):iy:=
 match a,b with
 |.val (.int d) a,.val (.int e) b=>mH c d a e b
 |.val .bool a,.val .bool b=>match c with
  |.eql=>.ff (.val .bool (a==b)) []
  |.neq=>.ff (.val .bool (!(a==b))) []
  |_=>.bad
 |_,_=>.bad
theorem Wu {d:BinOp} {q:bH} {f:cn} {m e:Z} (j:o.op=.binOp d R c g q) (k:a.eval c=.int t m) (l:a.eval g=.int f e) (b:(mH d t m f e).K Q):Yields E C st a w I rt fp o Q:=by
 have i:∀w,(anx d R c g (.int t m) (.int f e)).run E.P w=.ok () w:=λw=>(by simp_all [anx]);have r:d=.shl->Yields E C st a w I rt fp o Q:=(by rintro rfl;simp only[mH] at b;obtain⟨h,⟨n,rfl⟩,b⟩:=b;exact .pure (v:=.int t _) (by simp[bP,j,k,l,i,amI,Op.shift,(aa:¬e<0)]) (.int t _) b);have s:d=.shr->Yields E C st a w I rt fp o Q:=(by rintro rfl;simp only[mH] at b;obtain⟨h,⟨n,rfl⟩,b⟩:=b;exact .pure (v:=.int t _) (by simp[bP,j,k,l,i,amI,Op.shift,(aa:¬e<0)]) (.int t _) b);by_cases p:t=f
 case neg=>
  cases d<;>simp only[mH,p,if_false] at b
  case shl=>grind
  case shr=>grind
  all_goals exact b.elim
 subst p;cases d<;>simp only[mH,cq] at b
 case shl=>grind
 case shr=>grind
 case quo|rem=>
  obtain⟨h,⟨n,rfl⟩,b⟩:=b;exact .pure (v:=.int t _) (by simp_all [bP,amI,Op.intDiv]) (.int t _) b
 case add|sub|mul=>
  obtain⟨h,⟨_,rfl⟩,b⟩:=b;exact .pure (v:=.int t _) (by simp_all [bP,amI,Op.intArith]) (.int t _) b
 case and|or|xor|andNot=>
  obtain⟨h,⟨_,rfl⟩,b⟩:=b;exact .pure (v:=.int t _) (by simp_all [b0,bP,amI,Op.intBits]) (.int t _) b
 all_goals exact .pure (v:=.bool _) (by simp[bP,j,k,l,i,amI,Op.intCmp]) (.bool _) b
def run_equalIn_bool {a:b2} (w:bF) (d:X) (b c:bD) (e:a.underlying R=Y .bool):(anM (d+1) R (.bool b) (.bool c)).run a w=.ok (b==c) w:=by simp[anM,cd e]
theorem run_eql_bool {a:b2} (w:bF) (b c:bD) (d:a.underlying R=Y .bool):(amI .eql R (.bool b) (.bool c)).run a w=.ok (.bool (b==c)) w:=by simp_all [run_equalIn_bool,aov,aow,amI]
theorem run_neq_bool {a:b2} (w:bF) (b c:bD) (d:a.underlying R=Y .bool):(amI .neq R (.bool b) (.bool c)).run a w=.ok (.bool (!(b==c))) w:=by simp_all [run_equalIn_bool,aov,aow,amI]
theorem N1 (s:cW C st a.tmps w I rt fp) {m:BinOp} {z:bH} {d:bO} (y:o.op=.binOp m R c d z) (x:∀i j:bD,(m=.eql\/m=.neq)->(aX st.g c=.val .bool i/\aX st.g d=.val .bool j)->E.P.underlying R=Y .bool) (e:(Ip m (aX st.g c) (aX st.g d)).K Q):Yields E C st a w I rt fp o Q:=by
 have f:=s.aX c;have h:=s.aX d;unfold Ip at e;split at e
 ·rename_i G J H L n p;rw[n] at f;rw[p] at h;obtain⟨b,l⟩:∃b,b=a.eval c:=⟨_,bq⟩;obtain⟨A,k⟩:∃b,b=a.eval d:=⟨_,bq⟩;rw[<-l] at f;rw[<-k] at h;cases f with|val q=>cases h with|val r=>
  obtain⟨_,rfl⟩:=q;obtain⟨_,rfl⟩:=r;exact Wu y l.symm k.symm e
 ·rename_i i j n p;have k:=x i j;have u:aX st.g c=.val .bool i/\aX st.g d=.val .bool j:=⟨n,p⟩;rw[n] at f;rw[p] at h;obtain⟨b,l⟩:∃b,b=a.eval c:=⟨_,bq⟩;obtain⟨A,t⟩:∃b,b=a.eval d:=⟨_,bq⟩;rw[<-l] at f;rw[<-t] at h;cases f with|val q=>cases h with|val r=>
  obtain⟨_,rfl⟩:=q;obtain⟨_,rfl⟩:=r;have F:a.eval c=.bool i:=l.symm;have D:a.eval d=.bool j:=t.symm;have B:∀w,(anx m R c d (.bool i) (.bool j)).run E.P w=.ok () w:=λw=>(by simp_all [anx]);split at e
  ·have:=k (.inl bq) u;exact .pure (v:=.bool _) (by simp_all [b0,b4,run_eql_bool,bP]) (.bool _) e
  ·have:=k (.inr bq) u;exact .pure (v:=.bool _) (by simp_all [b0,b4,run_neq_bool,bP]) (.bool _) e
  exact e.elim
 exact e.elim
end
end
section
section
variable {E:fP} {C:fg} {st:aR} {a:Act} {w:bF} {I:X->Prop} {rt:X->amo} {fp:X->amu} {o:bU} {Q:ao->bp (X×aI)->Prop}
theorem cW.notM (c:cW C st N w I rt fp) {id:X} (e:ax st.h id=Y O):∀a∈fp id,∀b,¬bi I C.B b a:=λa d b f=>by have:=(c.tree id O e).2.2 a d;grind [nP]
theorem cW.lM (c:cW C st N w I rt fp) {id:X} (e:ax st.h id=Y O) {p:bp a6} {τ:ak} {f:τ.den} (j:e2 O.1 O.2 p τ f) {cs:amo} (k:aZ w O.1 br (rt id) p d v cs):∃_e:d=τ,∃a,aW (bi I C.B) w τ cs f a/\qF w v cs τ.size/\∀g∈a,g∈fp id:=by obtain⟨m,l,_⟩:=c.tree id O e;obtain⟨s,n,a,t,i,o,q,r,_⟩:=FH p (loc:=br) m (λ_ _ b=>by cases b) l (λ_ _ b=>by cases b) (c.notM e) j;obtain⟨rfl,rfl,rfl⟩:=k.lj i;grind
def cW.Tp (c:cW C st N w I rt fp) {id:X} (f:ax st.h id=Y O) {cs:amo} (e:aZ w O.1 br (rt id) m d v cs):cs.length=d.size/\∀a o,v=Y (a,o)->fG w a o cs:=e.at (c.tree id O f).1.len (λ_ _ b=>by cases b)
theorem qb {t:eM->X->Prop}:∀{p:bp a6} {τ:ak} {C:Loc} {cs:amo} {l:τ.den} {g:amu} {c:ak} {D:Loc} {m:amo},aW t w τ cs l g->aZ w τ C cs p (.optr c) D m->∃d o e,m=[.pointer (Y ⟨d,o,br⟩)]/\e.length=c.size/\fG w d o e
 |[],τ,_,_,_,_,_,_,_,a,b=>by obtain⟨rfl,rfl,rfl⟩:=aZ.gK.1 b;obtain⟨d,o,g,e,n,_,r,h,_⟩:=a;grind
 |s::p,τ,_,cs,l,g,_,_,_,a,b=>by
  cases τ<;>cases s<;>simp only[aZ] at b
  case osl.idx c i=>
   obtain⟨d,o,J,F,e,rfl,q,r,h,k⟩:=b;obtain⟨ad,G,f,a⟩:=a;simp only[ij,amE,cf] at f;obtain⟨rfl,rfl,rfl⟩:=f;rcases a with⟨j,_⟩|⟨u,E,z,j,_,aB,K,L,bj⟩
   ·cases j
   cases j;obtain⟨x,H,v,d3⟩:=bj i l[i] (z[i]'(by omega)) ac ac
   obtain rfl:=h.eq v aa;exact qb (p:=p) d3 k
  case optr.deref c=>
   obtain⟨d,o,e,rfl,r,h,k⟩:=b;obtain⟨u,E,g,x,f,_,I,A,_,B⟩:=a;simp only[ij,anJ,e9,amR,cf] at f;obtain⟨rfl,rfl⟩:=f;obtain rfl:=h.eq A aa;exact qb (p:=p) B k
  case st.unst c=>exact qb (p:=p) (τ:=c) a b
  case pr.fst t1 t2=>obtain⟨y,f2,_,n,_⟩:=a;exact qb (p:=p) (τ:=t1) n b
  case pr.snd t1 t2=>obtain⟨y,f2,_,_,q⟩:=a;exact qb (p:=p) (τ:=t2) q b
def hf (tt:bp (bH×ak)) (a:bH):bv ak:=match ax tt a with|some (.bc _ b)=>Y b|_=>br
def mg (tt:bp (bH×ak)) (a:bH):bv ak:=match ax tt a with|some (.st b)=>Y b|_=>br
theorem hf.ok {a:bH} {e:ak} (c:hf E.tt a=Y e):∃d b,E.P.info? a=Y d/\E.P.underlying a=Y (.slice b)/\fD E.P e b:=by
 unfold hf at c;split at c
 ·rename_i j k f;cases c;obtain⟨d,b,g,_,_,_,h,i⟩:=E.ok a _ f;grind
 grind
theorem mg.ok {a:bH} {d:ak} (c:mg E.tt a=Y d):∃b e,E.P.underlying a=Y (.struct b)/\je E.P d b.toList 0 e:=by
 unfold mg at c;split at c
 ·rename_i k f;cases c;obtain⟨_,j,b,e,g,_,_,_,h,i,_⟩:=E.ok a _ f;grind
 grind
def wq (tt:bp (bH×ak)) (e:bp (X×aI)) (g:bH) (b:ao):iy:=
 match hf tt g with
 |none=>.bad
 |some _=>match b with
  |.val (.bc _ _) a=>.ff (.val (.int .i64) (a.length:Z)) []
  |.eI (.slice br 0 0)=>.ff (.val (.int .i64) (0:Z)) []
  |.ref id d=>match ax e id with
   |some ⟨c,b⟩=>match fE c d with
    |some (.osl f)=>.part (bp f.den) (λa=>e2 c b d (.osl f) a) (λa=>(.val (.int .i64) (a.length:Z),[]))
    |_=>.bad
   |none=>.bad
  |.view _ _ i h=>.ff (.val (.int .i64) ((h-i:X):Z)) []
  |.app id d c j _=>match ax e id with
   |some ⟨k,b⟩=>.part (bp c.den) (λa=>e2 k b d (.osl c) a) (λa=>(.val (.int .i64) ((a.length+j.length:X):Z),[]))
   |none=>.bad
  |_=>.bad
def yH (f:hf E.tt R=Y d) (g:o.op=.call {callee:=.builtin .len,args:=#[c],argTypes:=#[R]}) {ad:bv ck} (i:a.eval c=.slice ad b h):(bP a.eval o).run E.P w=.ok (.value (.int .i64 b)) w:=by obtain⟨k,j,_,e,_⟩:=hf.ok f;simp[bP,g,anf,invoke,anz,i,apM,cd e,goInt]
theorem aaa (r:cW C st a.tmps w I rt fp) (j:o.op=.call {callee:=.builtin .len,args:=#[c],argTypes:=#[R]}) (b:(wq E.tt st.h R (aX st.g c)).K Q):Yields E C st a w I rt fp o Q:=by
 have d:=r.aX c;unfold wq at b;split at b
 ·exact b.elim
 rename_i S i;generalize f:a.eval c=T at d;split at b
 ·rename_i O A t e;rw[e] at d;cases d with|val z=>
  obtain⟨_,ad,p,rfl,_⟩:=z;exact .pure (yH i j f) (.int _ _) b
 ·rename_i e;rw[e] at d;cases d;exact .pure (yH i j f) (.int _ _) b
 ·rename_i id s e;rw[e] at d;split at b
  ·rename_i D B l;split at b
   ·rename_i A M;obtain⟨t,m,b⟩:=b;cases d with|ref k n=>
    rw[l] at k;cases k;obtain⟨rfl,F,y,_⟩:=r.lM l m n;obtain⟨ad,p,rfl,_⟩:=y;exact .pure (yH i j f) (.int _ _) b
   exact b.elim
  exact b.elim
 ·rename_i id s N J e;rw[e] at d;cases d with
  |mZ|view k n=>exact .pure (yH i j f) (.int _ _) b
 ·rename_i id s D U P e;rw[e] at d;split at b
  ·rename_i V B l;obtain⟨t,m,b⟩:=b;cases d with|app k L n v G H u=>
   rw[l] at k;cases k;obtain⟨ad,p,q,_⟩:=u;simp only[ij,cf] at q;have x:=e2.uniq m v;subst x;rw[q] at f;have:=yH (w:=w) i j f;rw[hM] at this;exact .pure this (.int _ _) b
  exact b.elim
 exact b.elim
def aZ.P9 {o a:X} (c:h<V) (e:u.length=d.size) (f:fG w b (o+h*d.size) u):aZ w (.osl d) v [.slice (Y ⟨b,o,br⟩) V a] [.idx h] d (Y (b,o+h*d.size)) u:=⟨b,o,V,a,u,bq,c,e,f,aZ.here⟩
def aZ.Jq {o:X} (a:u.length=d.size) (c:fG w b o u):aZ w (.optr d) v [.pointer (Y ⟨b,o,br⟩)] [.deref] d (Y (b,o)) u:=⟨b,o,u,bq,a,c,aZ.here⟩
def wk (
 tt:bp (bH×ak)) (i:bp (X×aI)) (k:bH) (e d:ao):iy:=
 match hf tt k with
 |none=>.bad
 |some g=>match d with
  |.val (.int _) d=>match e with
   |.val (.bc m b) n=>bif bg g b then .part b.den (λh=>az n d=Y h) (λh=>(.val (.ptr m b) (Y h),[])) else .bad
   |.ref id c=>match ax i id with
    |some ⟨f,e⟩=>match fE f c with
     |some (.osl b)=>bif bg g b then .part (bp b.den×X) (λa=>e2 f e c (.osl b) a.1/\d=(a.2:Z)/\a.2<a.1.length) (λa=>(.addr id (c++[.idx a.2]),[])) else .bad
     |_=>.bad
    |none=>.bad
   |.view id c j l=>match ax i id with
    |some ⟨f,e⟩=>match fE f c with
     |some (.osl b)=>bif bg g b then .part (bp b.den×X) (λa=>e2 f e c (.osl b) a.1/\d=(a.2:Z)/\a.2<l-j) (λa=>(.addr id (c++[.idx (j+a.2)]),[])) else .bad
     |_=>.bad
    |none=>.bad
   |_=>.bad
  |_=>.bad
def Kd (k:hf E.tt R=Y q) (m:bg q d=bt) (n:o.op=.indexAddr R g c) {e f:X} (r:a.eval g=.slice (Y ⟨V,e,br⟩) h f) (l:a.eval c=.int t b) (u:b<h):(bP a.eval o).run E.P w=.ok (.value (.pointer (Y ⟨V,e+b*d.size,br⟩))) w:=by obtain⟨v,s,_,i,j⟩:=hf.ok k;have p:=(j.lay m).sizeOf w;have:(0:Z)<=(b:Z)/\(b:Z)<(h:Z):=⟨aa,aa⟩;simp[bP,n,r,l,Instr.indexAt,anN,cd i,this,p,anw];omega
theorem Zu (A:cW C st a.tmps w I rt fp) {y:bO} (J:o.op=.indexAddr R y c) (b:(wk E.tt st.h R (aX st.g y) (aX st.g c)).K Q):Yields E C st a w I rt fp o Q:=by
 have k:=A.aX y;have H:=A.aX c;unfold wk at b;split at b
 ·exact b.elim
 rename_i S G;generalize L:a.eval y=d5 at k;generalize M:a.eval c=d6 at H;split at b
 case h_2=>exact b.elim
 rename_i am N a4;rw[a4] at H;cases H with|val P=>
 obtain⟨_,rfl⟩:=P;split at b
 ·rename_i cv f v q;cases d:bg S f with
  |false=>rw[d] at b;exact b.elim
  |true=>
   rw[d] at b;obtain⟨T,co,b⟩:=b;rw[q] at k;cases k with|val P=>
   obtain⟨_,ad,U,rfl,aB,an,O⟩:=P;obtain⟨ar,a0,a3⟩:=PR co;rcases O with rfl|⟨z,u,rfl,bs,bj⟩
   ·grind
   obtain⟨B,n,p,d3⟩:=bj _ _ a3;have ci:a.eval c=.int am (N.toNat:X):=(by rw[M];show amJ am N=_;grind);exact .pure (Kd G d J L ci a0) (.val (τ:=.ptr cv f) (x:=Y T) (cs:=[.pointer (Y ⟨z,u+N.toNat*f.size,br⟩)]) ⟨bq,z,_,B,bq,bs,n,p,d3⟩) b
 ·rename_i id c1 q;split at b
  case h_2=>exact b.elim
  rename_i ap T j;split at b
  case h_2=>exact b.elim
  rename_i f ce;cases d:bg S f with
  |false=>rw[d] at b;exact b.elim
  |true=>
   rw[d] at b;obtain⟨⟨v,e⟩,⟨r,rfl,l⟩,b⟩:=b;simp only at r l b;rw[q] at k;cases k with|ref t s=>
   rw[j] at t;cases t;obtain⟨rfl,bl,i,_⟩:=A.lM j r s;obtain⟨ad,U,rfl,i⟩:=i;rcases i with⟨_,rfl,_⟩|⟨z,u,D,rfl,_,aB,an,O,bj⟩
   ·grind
   obtain⟨B,n,p,d3⟩:=bj e v[e] (D[e]'(by omega)) ac ac
   exact .pure (Kd G d J L M l) (.addr j (s.append (aZ.P9 l n p))) b
 ·rename_i id c1 m dl q;split at b
  case h_2=>exact b.elim
  rename_i ap T j;split at b
  case h_2=>exact b.elim
  rename_i f ce;cases d:bg S f with
  |false=>rw[d] at b;exact b.elim
  |true=>
   rw[d] at b;obtain⟨⟨v,e⟩,⟨r,rfl,l⟩,b⟩:=b;simp only at r l b;rw[q] at k;cases k with|mZ=>omega|view t s ds d0 d1=>
   rename_i z u d2 U;rw[j] at t;cases t;obtain⟨av,bl,i,_⟩:=A.lM j r s;cases av;obtain⟨ad,dg,V,i⟩:=i;simp only[ij,amE,cf] at V;obtain⟨rfl,rfl,rfl⟩:=V;rcases i with⟨F,_⟩|⟨c2,d4,D,F,_,aB,an,O,bj⟩
   ·cases F
   cases F;have bx:m+e<v.length:=aa;obtain⟨B,n,p,d3⟩:=bj (m+e) v[m+e] (D[m+e]'(by omega)) ac ac
   have:=Kd (w:=w) G d J L M l;rw[aw aa,(ae:u+m*f.size+e*f.size=u+(m+e)*f.size)] at this;exact .pure this (.addr j (s.append (aZ.P9 bx n p))) b
 exact b.elim
def aW.pure {h:eM->X->Prop} {w:bF}:∀{τ:ak} {cs:amo} {e:τ.den} {g:amu},τ.pure=bt->aW h w τ cs e g->g=[]
 |.int _,_,_,_,_,b|.bool,_,_,_,_,b|.str,_,_,_,_,b|.bc _ _,_,_,_,_,b|.ptr _ _,_,_,_,_,b|.nil,_,_,_,_,b=>b.1
 |.st j,_,_,_,c,b=>aW.pure (τ:=j) c b
 |.pr a f,_,_,_,c,b=>by simp only[ak.pure,cJ] at c;obtain⟨m,f2,rfl,i,d⟩:=b;rw[aW.pure (τ:=a) c.1 i,aW.pure (τ:=f) c.2 d];rfl
 |.osl _,_,_,_,c,_|.optr _,_,_,_,c,_=>by cases c
 |.fd _ _,_,e,_,_,b=>by
  cases e with
  |none=>exact b.1
  |some n=>obtain⟨f,l,k,_,d,_⟩:=b;exact d
 |.fn _ _,_,_,_,_,b=>b.1
 |.eO,_,_,_,c,_=>by cases c
def wN (d:ak) (e:d.den) (id:X) (c:bp a6) (a:ak):iy:=
 bif a.pure then .part a.den (λb=>e2 d e c a b) (λb=>(.val a b,[])) else .ff (.ref id c) []
def py:ak->bD
 |.st _|.pr _ _|.nil|.eO=>bu
 |_=>bt
def p5:ak->bD
 |.nil=>bt
 |.pr a b=>py a&&p5 b
 |_=>bu
def Bu:(d:ak)->d.den->bp ao
 |.pr a c,b=>.val a b.1::Bu c b.2
 |_,_=>[]
def p5.one {τ:ak} (a:py τ=bt):τ.size=1/\∀cs,c9 τ cs=cs.headD undef:=by cases τ<;>first|(cases a;done)|exact⟨bq,λ_=>rfl⟩
def PH {g:eM->X->Prop} {w:bF} {h:bp (X×aI)} {rt:X->amo} {fp:X->amu}:∀{t:ak} {c:amo} {e:t.den},p5 t=bt->aW g w t c e []->(Bu t e).length=c.length/\∀(b:X) (a:ao) (f:Value),(Bu t e)[b]?=Y a->c[b]?=Y f->c0 g w h rt fp a f
 |.nil,c,e,_,j=>by obtain rfl:=j.2;exact⟨bq,λb a f d _=>by cases d⟩
 |.pr a o,c,e,i,j=>by
  simp only[p5,cJ] at i;obtain⟨v,f2,r,d,k⟩:=j;obtain⟨rfl,rfl⟩:=apN.1 r.symm;obtain⟨ar,q⟩:=p5.one i.1;have m:=d.len;rw[ar] at d k m;cases c with
  |nil=>cases m
  |cons f c=>
   obtain⟨aB,s⟩:=PH (t:=o) i.2 k;refine⟨b9 (· +1) aB,λb p u l n=>?_⟩;cases b with
   |zero=>
    cases l;cases n;have:=c0.val (M:=g) (w:=w) (h:=h) (rt:=rt) (fp:=fp) d;rw[q] at this;exact this
   |succ b=>exact s b p u l n
def wI:(t:ak)->t.den->ao
 |.fn b t,a=>bif p5 t then .eG b (Bu t a) else .val (.fn b t) a
 |t,a=>.val t a
def aef {w:bF} {rt:X->amo} {fp:X->amu} {b:d.den} {cs:amo} (i:aW e w d cs b []):c0 e w s rt fp (wI d b) (c9 d cs):=by
 cases d<;>first|exact .val i|skip
 rename_i c d;cases g:p5 d with
 |false=>
  have:wI (.fn c d) b=.val (.fn c d) b:=(by simp only[wI,g,bQ]);rw[this];exact .val i
 |true=>
  have:wI (.fn c d) b=.eG c (Bu d b):=(by simp only[wI,g,bI]);rw[this];obtain⟨_,n,rfl,f⟩:=i;obtain⟨aB,l⟩:=PH (h:=s) (rt:=rt) (fp:=fp) g f;exact .eG (by simpa using aB) (λk a m j f=>l k a m j (by simpa using f))
def wu (tt:bp (bH×ak)) (f:bp (X×aI)) (g:bH) (c:ao):iy:=
 match ax tt g with
 |none=>.bad
 |some e=>match c with
  |.val (.ptr _ a) (Y i)=>bif bg e a then .ff (wI a i) [] else .bad
  |.hY h=>bif py e then .ff h [] else .bad
  |.addr id b=>match ax f id with
   |some ⟨d,c⟩=>match fE d b with
    |some a=>bif bg e a then wN d c id b a else .bad
    |none=>.bad
   |none=>.bad
  |.ref id b=>match ax f id with
   |some ⟨d,c⟩=>match fE d b with
    |some (.optr a)=>bif bg e a then wN d c id (b++[.deref]) a else .bad
    |_=>.bad
   |none=>.bad
  |_=>.bad
theorem KI (e:ax E.tt R=Y q) (i:bg q d=bt) (j:o.op=.load R c) {cs:amo} (k:a.eval c=.pointer (Y ⟨b,h,br⟩)) (f:fG w b h cs) (g:cs.length=d.size):(bP a.eval o).run E.P w=.ok (.value (c9 d cs)) w:=by have:=Mc ((E.ok R q e).lay i) f g;simp_all [bP,aq2,an4]
theorem L4 (k:cW C st a.tmps w I rt fp) {id:X} {j:q.den} (i:ax st.h id=Y ⟨q,j⟩) {cs:amo} (e:aZ w q br (rt id) m d v cs) (f:(bP a.eval o).run E.P w=.ok (.value (c9 d cs)) w) (b:(wN q j id m d).K Q):Yields E C st a w I rt fp o Q:=by
 unfold wN at b;cases c:d.pure with
 |true=>
  rw[c] at b;obtain⟨p,l,b⟩:=b;obtain⟨_,n,g,_⟩:=k.lM i l e;have:=g.pure c;subst this;exact .pure f (.val g) b
 |false=>
  rw[c] at b;exact .pure f (.ref i e) b
theorem aai (p:cW C st a.tmps w I rt fp) (y:o.op=.load R c) (d:(wu E.tt st.h R (aX st.g c)).K Q):Yields E C st a w I rt fp o Q:=by
 have f:=p.aX c;unfold wu at d;split at d
 ·exact d.elim
 rename_i n r;generalize z:a.eval c=u at f;split at d
 ·rename_i ap m F i;cases e:bg n m with
  |false=>rw[e] at d;exact d.elim
  |true=>
   rw[e] at d;rw[i] at f;cases f with|val T=>
   obtain⟨_,q,N,G,rfl,aB,D,S,bj⟩:=T;exact .pure (KI r e y z S D) (aef bj) d
 ·rename_i V i;cases s:py n with
  |false=>rw[s] at d;exact d.elim
  |true=>
   rw[s] at d;rw[i] at f;cases f with|hY am J ad L=>
   obtain⟨ar,H⟩:=p5.one s;rename_i u q;have:=Mc (E.ok R n r) (cs:=[u]) (w:=w) (b:=q) (o:=0) (λB av A=>by
    cases B with
    |zero=>cases A;exact J
    |succ B=>cases A) (by rw[ar];rfl)
   have M:(bP a.eval o).run E.P w=.ok (.value u) w:=(by rw[H] at this;simp_all [bP,aq2,an4]);exact .pure M L d
 ·rename_i id O i;split at d
  case h_2=>exact d.elim
  rename_i U F k;split at d
  case h_2=>exact d.elim
  rename_i m t;cases e:bg n m with
  |false=>rw[e] at d;exact d.elim
  |true=>
   rw[e] at d;rw[i] at f;cases f with|addr l j=>
   rw[k] at l;cases l;have:=j.ty;rw[t] at this;cases this;obtain⟨aB,D⟩:=p.Tp k j;grind [L4,KI]
 ·rename_i id O i;split at d
  case h_2=>exact d.elim
  rename_i U F k;split at d
  case h_2=>exact d.elim
  rename_i m t;cases e:bg n m with
  |false=>rw[e] at d;exact d.elim
  |true=>
   rw[e] at d;rw[i] at f;cases f with|ref l j=>
   rename_i a0 an cs;rw[k] at l;cases l;have:=j.ty;rw[t] at this;cases this;obtain⟨q,N,G,rfl,v,x⟩:=qb (p.tree id _ k).1 j;exact L4 p k (j.append (aZ.Jq v x)) (KI r e y z x v) d
 exact d.elim
def we (tt:bp (bH×ak)) (g:bp (X×aI)) (h:bH) (k:ao) (c:X):iy:=
 match mg tt h with
 |none=>.bad
 |some e=>match k with
  |.val (.ptr i (.st a)) (Y l)=>bif bg e a then match sp a l c with
   |some ⟨j,m⟩=>.ff (.val (.ptr i j) (Y m)) []
   |none=>.bad
   else .bad
  |.ref id b=>match ax g id with
   |some ⟨f,_⟩=>match fE f b with
    |some (.optr (.st a))=>bif bg e a then match fS a c with
     |some (d,_)=>.ff (.addr id (b++(.deref::.unst::d))) []
     |none=>.bad
     else .bad
    |_=>.bad
   |none=>.bad
  |.addr id b=>match ax g id with
   |some ⟨f,_⟩=>match fE f b with
    |some (.st a)=>bif bg e a then match fS a c with
     |some (d,_)=>.ff (.addr id (b++(.unst::d))) []
     |none=>.bad
     else .bad
    |_=>.bad
   |none=>.bad
  |_=>.bad
def JP {f:ak} (l:mg E.tt R=Y f) (p:bg f d=bt) (t:fS d b=Y (m,q)) (r:o.op=.fieldAddr R c b) (u:a.eval c=.pointer (Y ⟨h,V,br⟩)):(bP a.eval o).run E.P w=.ok (.value (.pointer (Y ⟨h,V+fO d b,br⟩))) w:=by obtain⟨i,y,j,k⟩:=mg.ok l;obtain⟨g,x,s,e⟩:=JQ (je.lay p k) t;have v:q.size≠0:=(by have:=e.pos;omega);have n:i[b]?=Y g:=ae;simp[bP,r,u,Instr.fieldAt,cd j,n,an4,fieldPlace,e.sizeOf,v,anw,s]
theorem YM (F:cW C st a.tmps w I rt fp) (y:o.op=.fieldAddr R c b) (d:(we E.tt st.h R (aX st.g c) b).K Q):Yields E C st a w I rt fp o Q:=by
 have m:=F.aX c;unfold we at d;split at d
 ·exact d.elim
 rename_i D v;generalize A:a.eval c=ap at m;split at d
 ·rename_i S e J r;cases i:bg D e with
  |false=>rw[i] at d;exact d.elim
  |true=>
   rw[i] at d;simp only[bI] at d;split at d
   case h_2=>exact d.elim
   rename_i n am G;rw[r] at m;cases m with|val V=>
   obtain⟨_,f,j,u,rfl,aB,an,U,bj⟩:=V;obtain⟨t,k⟩:=JT G;obtain⟨H,ad⟩:=JS (τ:=e) bj G;have O:=bj.len;simp only[ak.size] at O H ad;exact .pure (JP v i k y A) (.val (τ:=.ptr S n) (x:=Y am) (cs:=[.pointer (Y ⟨f,j+fO e b,br⟩)]) ⟨bq,f,_,_,bq,aB,ae,U.drop.take,H⟩) d
 ·rename_i id T r;split at d
  case h_2=>exact d.elim
  rename_i L J q;split at d
  case h_2=>exact d.elim
  rename_i e z;cases i:bg D e with
  |false=>rw[i] at d;exact d.elim
  |true=>
   rw[i] at d;simp only[bI] at d;split at d
   case h_2=>exact d.elim
   rename_i t n k;rw[r] at m;cases m with|ref s p=>
   rw[q] at s;cases s;have:=p.ty;rw[z] at this;cases this;obtain⟨f,j,u,rfl,M,N⟩:=qb (F.tree id _ q).1 p;rename_i P;have B:aZ w (.optr (.st e)) P [.pointer (Y ⟨f,j,br⟩)] (.deref::.unst::t) n (Y (f,j+fO e b)) ((u.drop (fO e b)).take n.size):=⟨f,j,u,bq,M,N,aZ.FG (l:=Y (f,j)) k⟩;exact .pure (JP v i k y A) (.addr q (p.append B)) d
 ·rename_i id T r;split at d
  case h_2=>exact d.elim
  rename_i L J q;split at d
  case h_2=>exact d.elim
  rename_i e z;cases i:bg D e with
  |false=>rw[i] at d;exact d.elim
  |true=>
   rw[i] at d;simp only[bI] at d;split at d
   case h_2=>exact d.elim
   rename_i t n k;rw[r] at m;cases m with|addr s p=>
   rw[q] at s;cases s;have:=p.ty;rw[z] at this;cases this;rename_i f j cs;have B:aZ w (.st e) (Y (f,j)) cs (.unst::t) n (Y (f,j+fO e b)) ((cs.drop (fO e b)).take n.size):=aZ.FG (l:=Y (f,j)) k;exact .pure (JP v i k y A) (.addr q (p.append B)) d
 exact d.elim
def yq (
 tt:bp (bH×ak)) (i:bp (X×aI)) (h:bH) (c:ao) (d:X):iy:=
 match mg tt h with
 |none=>.bad
 |some f=>match c with
  |.val (.st a) k=>bif bg f a then match sp a k d with
   |some ⟨b,l⟩=>.ff (.val b l) []
   |none=>.bad
   else .bad
  |.ref id e=>match ax i id with
   |some ⟨g,c⟩=>match fE g e with
    |some (.st a)=>bif bg f a then match fS a d with
     |some (j,b)=>wN g c id (e++(.unst::j)) b
     |none=>.bad
     else .bad
    |_=>.bad
   |none=>.bad
  |_=>.bad
theorem PG {i:ak} (p:mg E.tt R=Y i) (s:bg i d=bt) (u:fS d b=Y (m,q)) (t:o.op=.field R c b) {cs:amo} (v:a.eval c=c9 (.st d) cs) (z:fO d b+q.size<=cs.length):(bP a.eval o).run E.P w=.ok (.value (c9 q ((cs.drop (fO d b)).take q.size))) w:=by
 obtain⟨j,D,l,n⟩:=mg.ok p;obtain⟨f,A,h,e⟩:=JQ (je.lay s n) u;have C:=e.pos;have r:j[b]?=Y f:=ae;simp only[l3] at h;have x:a.eval c=.agg cs.toArray:=v;have y:(part f.type cs.toArray f.offset).run E.P w=.ok (c9 q ((cs.drop (fO d b)).take q.size)) w:=by
  simp only[part,b0,e.isAgg,b4,h];cases g:p8 q with
  |true=>
   rw[GP g];simp only[cq,b0,e.sizeOf,b4,cz];grind
  |false=>
   have k:=LJ e g;rw[GO g,k];have B:fO d b<cs.length:=aa;have:(cs.drop (fO d b)).take 1=[cs[fO d b]]:=(by grind [List.drop_eq_getElem_cons]);simp_all
 simp[bP,t,x,Instr.field,cd l,r,asAgg,y]
theorem YO (m:cW C st a.tmps w I rt fp) (t:o.op=.field R c b) (d:(yq E.tt st.h R (aX st.g c) b).K Q):Yields E C st a w I rt fp o Q:=by
 have j:=m.aX c;unfold yq at d;split at d
 ·exact d.elim
 rename_i A r;generalize v:a.eval c=N at j;split at d
 ·rename_i f G l;cases e:bg A f with
  |false=>rw[e] at d;exact d.elim
  |true=>
   rw[e] at d;simp only[bI] at d;split at d
   case h_2=>exact d.elim
   rename_i q O s;rw[l] at j;cases j with|val y=>
   obtain⟨z,i⟩:=JT s;obtain⟨F,M⟩:=JS (τ:=f) y s;have D:=y.len;simp only[ak.size] at D;exact .pure (PG r e i t v aa) (.val F) d
 ·rename_i id J l;split at d
  case h_2=>exact d.elim
  rename_i H G p;split at d
  case h_2=>exact d.elim
  rename_i f B;cases e:bg A f with
  |false=>rw[e] at d;exact d.elim
  |true=>
   rw[e] at d;simp only[bI] at d;split at d
   case h_2=>exact d.elim
   rename_i z q i;rw[l] at j;cases j with|ref u n=>
   rename_i P x cs;rw[p] at u;cases u;have:=n.ty;rw[B] at this;cases this;obtain⟨aB,L⟩:=m.Tp p n;have k:aZ w (.st f) x cs (.unst::z) q (x.map λk=>(k.1,k.2+fO f b)) ((cs.drop (fO f b)).take q.size):=aZ.FG i;exact L4 m p (n.append k) (PG r e i t v (by rw[aB];exact yr i)) d
 exact d.elim
def wD (f:bp (X×aI)) (b:ao):iy:=
 match b with
 |.val (.ptr h d) b=>.part d.den (λc=>b=Y c) (λc=>(.val (.ptr h d) (Y c),[]))
 |.ref id a=>match ax f id with
  |some ⟨i,_⟩=>match fE i a with
   |some (.optr _)=>.ff (.ref id a) []
   |_=>.bad
  |none=>.bad
 |.addr id a=>.ff (.addr id a) []
 |.eG e g=>.ff (.eG e g) []
 |_=>.bad
theorem aa4 (p:cW C st a.tmps w I rt fp) (L:o.op=.nilCheck c) (b:(wD st.h (aX st.g c)).K Q):Yields E C st a w I rt fp o Q:=by
 have d:=p.aX c;unfold wD at b;generalize M:a.eval c=D at d;split at b
 ·rename_i u l m e;obtain⟨m,rfl,b⟩:=b;rw[e] at d;cases d with|val B=>
  obtain⟨_,f,k,n,rfl,aB,z,A,bj⟩:=B;exact .pure (v:=.pointer (Y ⟨f,k,br⟩)) (by simp_all [bP,c9]) (.val (τ:=.ptr u l) (x:=Y m) (cs:=[.pointer (Y ⟨f,k,br⟩)]) ⟨bq,f,k,n,bq,aB,z,A,bj⟩) b
 ·rename_i id y e;split at b
  case h_2=>exact b.elim
  rename_i F m j;split at b
  case h_2=>exact b.elim
  rename_i l t;rw[e] at d;cases d with|ref q i=>
  rw[j] at q;cases q;have:=i.ty;rw[t] at this;cases this;obtain⟨f,k,n,rfl,G,H⟩:=qb (p.tree id _ j).1 i;exact .pure (v:=.pointer (Y ⟨f,k,br⟩)) (by simp_all [bP,c9]) (.ref (τ':=.optr l) j i) b
 ·rename_i id y e;rw[e] at d;cases d with|addr j i=>
  exact .pure (by simp_all [bP]) (.addr j i) b
 ·rename_i J N e;rw[e] at d;cases d with|eG s r=>
  exact .pure (by simp_all [bP]) (.eG s r) b
 exact b.elim
def tD (d:bv ao) (b a:X):Prop:=
 match d with
 |none=>a=b
 |some (.val (.int _) c)=>c=(a:Z)
 |some _=>b7
def wX (tt:bp (bH×ak)) (k:bp (X×aI)) (j:bH) (d:ao) (g f:bv ao):iy:=
 match hf tt j with
 |none=>.bad
 |some h=>match d with
  |.val (.bc l b) e=>bif bg h b then
   .part es (λa=>tD g 0 a.1/\tD f e.length a.2/\a.1<=a.2/\a.2<=e.length) (λa=>(.val (.bc l b) ((e.take a.2).drop a.1),[])) else .bad
  |.ref id c=>match ax k id with
   |some ⟨i,d⟩=>match fE i c with
    |some (.osl b)=>bif bg h b then
     .part (bp b.den×X×X) (λa=>e2 i d c (.osl b) a.1/\tD g 0 a.2.1/\tD f a.1.length a.2.2/\a.2.1<=a.2.2/\a.2.2<=a.1.length) (λa=>(.view id c a.2.1 a.2.2,[])) else .bad
    |_=>.bad
   |none=>.bad
  |_=>.bad
def Iv (a:Act) (e:eA) (c b:X):Prop:=
 match e with
 |none=>b=c
 |some f=>∃d,a.eval f=.int d b
theorem Mm (n:hf E.tt R=Y q) (r:bg q d=bt) {i e:eA} (s:o.op=.slice R c i e br) {ad:bv ck} {f:X} (u:a.eval c=.slice ad f V) (j:Iv a i 0 h) (g:Iv a e f b) (A:h<=b) (B:b<=V):(bP a.eval o).run E.P w=.ok (.value (.slice (if V=h then ad else ad.map (·.add (h*d.size))) (b-h) (V-h))) w:=by
 obtain⟨D,y,_,l,m⟩:=hf.ok n;have t:=(m.lay r).sizeOf w;have ar:(0:Z)<=(b:Z)/\(b:Z)<=(V:Z):=⟨aa,aa⟩;have z:(0:Z)<=(h:Z)/\(h:Z)<=(b:Z):=⟨aa,aa⟩;have k:(aox bt f V (i.map a.eval) (e.map a.eval) br).run E.P w=.ok (h,b,V) w:=by
  cases i with
  |none=>
   obtain rfl:h=0:=j;cases e with
   |none=>obtain rfl:b=f:=g;simp[aox]
   |some x=>obtain⟨v,p⟩:=g;simp_all [aox,apO,anN]
  |some G=>
   obtain⟨F,C⟩:=j;cases e with
   |none=>obtain rfl:b=f:=g;simp_all [aox,apO,anN]
   |some x=>
    obtain⟨v,p⟩:=g;simp_all [aox,apO,anN]
 simp[bP,s,u,Instr.sliceAt,Instr.slice,cd l,k,t]
theorem xO (i:cW C st a.tmps w I rt fp) {d:eA} (c:tD (d.map (aX st.g)) b h):Iv a d b h:=by
 cases d with
 |none=>exact c
 |some f=>
  have:=i.aX f;simp only[jT,tD] at c;split at c
  ·grind
  ·rename_i k m e;simp only[e9] at e;rw[e] at this;subst c;generalize j:a.eval f=n at this;cases this with|val l=>obtain⟨_,rfl⟩:=l;exact⟨k,j⟩
  grind
theorem ahc (e:cW C st a.tmps w I rt fp) {L y:eA} (z:o.op=.slice R c L y br) (b:(wX E.tt st.h R (aX st.g c) (L.map (aX st.g)) (y.map (aX st.g))).K Q):Yields E C st a w I rt fp o Q:=by
 have r:=e.aX c;unfold wX at b;split at b
 ·exact b.elim
 rename_i O v;generalize D:a.eval c=ci at r;split at b
 ·rename_i V i F u;cases f:bg O i with
  |false=>rw[f] at b;exact b.elim
  |true=>
   rw[f] at b;obtain⟨⟨d,m⟩,⟨j,k,l,s⟩,b⟩:=b;simp only at j k l s b;rw[u] at r;cases r with|val an=>
   obtain⟨_,ad,q,rfl,aB,M,N⟩:=an;have t:=Mm (w:=w) v f z D (xO e j) (xO e k) l aa;have U:((F.take m).drop d).length=m-d:=ae;refine .pure t (.val (τ:=.bc V i) (x:=(F.take m).drop d) (cs:=[_]) ⟨bq,_,q-d,by rw[U],aa,?_,?_⟩) b
   ·intro a4;by_cases bl:q=d
    ·omega
    simp_all
   by_cases bs:m=d
   ·grind
   right;rcases N with rfl|⟨p,n,rfl,P,bj⟩
   ·grind
   refine⟨p,n+d*i.size,by rw[aw aa];simp[anw],P,λce ap y=>?_⟩;grind
 ·rename_i id am u;split at b
  case h_2=>exact b.elim
  rename_i av ap B;split at b
  case h_2=>exact b.elim
  rename_i i bx;cases f:bg O i with
  |false=>rw[f] at b;exact b.elim
  |true=>
   rw[f] at b;obtain⟨⟨F,d,m⟩,⟨G,j,k,l,s⟩,b⟩:=b;simp only at G j k l s b;rw[u] at r;cases r with|ref J H=>
   rw[B] at J;cases J;obtain⟨rfl,a0,A,_⟩:=e.lM B G H;obtain⟨ad,q,rfl,A⟩:=A;rcases A with⟨rfl,rfl,rfl,_⟩|⟨p,n,a3,rfl,_,aB,M,N,bj⟩
   ·have S:m=0:=ae;subst S;have T:d=0:=aa;subst T;exact .pure (Mm (w:=w) v f z D (xO e j) (xO e k) (bf _) (bf _)) (.mZ id am) b
   have t:=Mm (w:=w) v f z D (xO e j) (xO e k) l aa;have:(if q=d then Y (⟨p,n,br⟩:ck) else(Y (⟨p,n,br⟩:ck)).map (·.add (d*i.size)))=Y ⟨p,if q=d then n else n+d*i.size,br⟩:=(by grind [anw]);rw[this] at t;exact .pure t (.view B H l s M) b
 exact b.elim
end
end
section
def jm:(h:ak)->amo->bv h.den
 |.int c,cs=>match cs with
  |[.int d n]=>if c=d then Y n else br
  |_=>br
 |.bool,cs=>match cs with
  |[.bool b]=>Y b
  |_=>br
 |.str,cs=>match cs with
  |[.string s]=>Y s
  |_=>br
 |.bc _ _,cs=>match cs with
  |[.slice br 0 0]=>Y []
  |_=>br
 |.osl _,cs=>match cs with
  |[.slice br 0 0]=>Y []
  |_=>br
 |.ptr _ _,cs=>match cs with
  |[.pointer br]=>Y br
  |_=>br
 |.st e,cs=>jm e cs
 |.pr a b,cs=>match jm a (cs.take a.size),jm b (cs.drop a.size) with
  |some f,Y g=>Y (f,g)
  |_,_=>br
 |.nil,cs=>match cs with
  |[]=>Y ()
  |_=>br
 |.optr _,_|.eO,_|.mp _,_|.fd _ _,_|.fn _ _,_=>br
theorem qX {M:eM->X->Prop} {w:bF}:∀{τ:ak} {cs:amo} {c:τ.den},jm τ cs=Y c->aW M w τ cs c []
 |.int i,cs,c,b=>by
  simp only[jm] at b;split at b
  ·split at b
   ·rename_i e;cases b;subst e;exact⟨bq,bq⟩
   grind
  grind
 |.bool,cs,c,b=>by simp only[jm] at b;split at b<;>cases b;exact⟨bq,bq⟩
 |.str,cs,c,b=>by simp only[jm] at b;split at b<;>cases b;exact⟨bq,bq⟩
 |.bc _ _,cs,c,b=>by simp only[jm] at b;split at b<;>cases b;exact⟨bq,br,0,bq,bf _,λ_=>rfl,.inl bq⟩
 |.osl _,cs,c,b=>by simp only[jm] at b;split at b<;>cases b;exact⟨br,0,bq,.inl ⟨bq,bq,bq,bq⟩⟩
 |.ptr _ _,cs,c,b=>by simp only[jm] at b;split at b<;>cases b;exact⟨bq,bq⟩
 |.st h,cs,c,b=>qX (τ:=h) (by grind [jm])
 |.pr a d,cs,c,b=>by
  simp only[jm] at b;split at b
  ·rename_i c j f g;cases b;exact⟨[],[],bq,qX (τ:=a) f,qX (τ:=d) g⟩
  grind
 |.nil,cs,c,b=>by simp only[jm] at b;split at b<;>cases b;exact⟨bq,bq⟩
 |.optr _,cs,c,b|.eO,cs,c,b|.mp _,cs,c,b|.fd _ _,cs,c,b|.fn _ _,cs,c,b=>by grind [jm]
theorem PI (c:X):∀(d:amo) (a:X) (cs:eB),let e:=(d.zipIdx a).foldl (λcs (g:Value×X)=>cs.setIfInBounds (c+g.2) g.1) cs
 e.size=cs.size/\(∀b,b<c+a\/c+a+d.length<=b->e[b]?=cs[b]?)/\(c+a+d.length<=cs.size->∀b f,d[b]?=Y f->e[c+a+b]?=Y f)
 |[],a,cs=>⟨bq,λ_ _=>rfl,λ_ b f h=>by grind⟩
 |x::d,a,cs=>by obtain⟨i,j,k⟩:=PI c d (a+1) (cs.setIfInBounds (c+a) x);grind [List.zipIdx_cons]
theorem Br (k:X->bv es):∀(j:bp (X×Value)) (c:eB),(∀a∈j,∃f b,k a.1=Y (f,b)/\a.2.cells.size=b/\f+b<=c.size)->(j.Pairwise λa g=>∀o b l p,k a.1=Y (o,b)->k g.1=Y (l,p)->o+b<=l\/l+p<=o)->∃g,aq3 k c j=Y g/\g.size=c.size/\(∀d,(∀a∈j,∀o b,k a.1=Y (o,b)->d<o\/o+b<=d)->g[d]?=c[d]?)/\(∀a∈j,∀o b,k a.1=Y (o,b)->∀d e,a.2.cells[d]?=Y e->g[o+d]?=Y e)
 |[],c,_,_=>⟨c,bq,bq,λ_ _=>rfl,λa h=>by cases h⟩
 |(i,e)::j,c,u,q=>by
  obtain⟨f,b,s,w,C⟩:=u (i,e) ac;simp only at s w;rw[nF] at q;have v:e.cells.zipIdx.foldl (λcs (a:Value×X)=>cs.setIfInBounds (f+a.2) a.1) c=(e.cells.toList.zipIdx 0).foldl (λcs (a:Value×X)=>cs.setIfInBounds (f+a.2) a.1) c:=(by rw[<-Array.foldl_toList,Array.toList_zipIdx]);obtain⟨m,f2,n⟩:=PI f e.cells.toList 0 c;rw[<-v] at m f2 n;simp only[Array.length_toList] at f2 n;generalize z:e.cells.zipIdx.foldl (λcs (a:Value×X)=>cs.setIfInBounds (f+a.2) a.1) c=t at m f2 n;obtain⟨g,D,x,y,aY⟩:=Br k j t (λa h=>by
   grind) q.2
  refine⟨g,?_,by rw[x,m],λd r=>?_,λa h l p A d E B=>?_⟩
  ·grind [aq3,decide]
  ·rw[y d (λa h=>r a (gH _ h)),f2 d (by have:=r (i,e) ac f b s;omega)]
  rcases fH.1 h with rfl|h
  ·grind
  grind
section
variable {E:fP} {C:fg} {st:aR} {a:Act} {w:bF} {I:X->Prop} {rt:X->amo} {fp:X->amu} {o:bU} {Q:ao->bp (X×aI)->Prop}
theorem fG.alloc {w:bF} {c:eB} {d:bH} {o:X} {cs:amo} (e:∀a b,cs[a]?=Y b->c[o+a]?=Y b):fG (w.alloc (.cells c d)) w.heap.size o cs:=λa b f=>by simp_all
theorem jf.alloc {w:bF} {a:eB} {c:bH} {d b:X} (e:b<=a.size):jf (w.alloc (.cells a c)) w.heap.size d b:=λg _ f=>by grind [World.cell?_alloc_new,World.frozen?_alloc_new]
theorem Yields.new {d:X} {t:aI} {e:Value} {cs:amo} {f:amu} {cells:eB} {T:bH} (l:ax st.h d=br) (g:cW C st a.tmps w I rt fp) (p:(bP a.eval o).run E.P w=.ok (.value e) (w.alloc (.cells cells T))) (r:e=c9 t.1 cs) (q:aW (bi I C.B) (w.alloc (.cells cells T)) t.1 cs t.2 f) (j:∀c∈f,c=w.heap.size) (m:f.Nodup) (n:Q (.ref d []) [(d,t)]):Yields E C st a w I rt fp o Q:=by
 refine⟨e,_,I,λ_=>cs,λ_=>f,.ref d [],[(d,t)],p,.alloc w _,λ_ b=>b,λ_ b=>.inl b,.one l q m (λc i=>?_),?_,n⟩
 ·rw[j c i];exact⟨bf _,ac,λb=>by have:=g.ib _ (.inl b);omega⟩
 rw[r];have k:ax ([(d,t)]++st.h) d=Y t:=(by rw[zR,eJ,ay bq]);refine .ref (t:=t) (τ':=t.1) (loc:=br) k ?_;grind [aZ.here,eJ,fC]
def wx (tt:bp (bH×ak)) (g:bp (X×ak)) (h:bp (X×aI)) (b:X) (f:bH) (e d:ao):iy:=
 match hf tt f,ax g b,ax h b with
 |some i,Y (.osl c),br=>match m0 c,e,d with
  |some j,.val (.int _) e,.val (.int _) d=>bif bg i c&&b5 c.size 2000 then
   .part es (λa=>e=(a.1:Z)/\d=(a.2:Z)/\a.1<=a.2/\a.2<=hR) (λa=>(.ref b [],[(b,⟨.osl c,bM a.1 j⟩)])) else .bad
  |_,_,_=>.bad
 |_,_,_=>.bad
theorem aav (a:eB) (d b c:X) (e:Value) (_hz:0<a.size) (h:a[c]?=Y e) (g:b<d):(apP a (d*a.size))[b*a.size+c]?=Y e:=by have i:c<a.size:=(s7.1 h).1;have f:(b+1)*a.size<=d*a.size:=hW _ g;rw[la,iL] at f;grind [anO,Nat.add_mul_mod_self_right,Nat.mod_eq_of_lt,apP]
theorem aax (p:cW C st a.tmps w I rt fp) {m:bO} (U:o.op=.makeSlice R m c) (e:(wx E.tt k st.h b R (aX st.g m) (aX st.g c)).K Q):Yields E C st a w I rt fp o Q:=by
 have r:=p.aX m;have q:=p.aX c;unfold wx at e;split at e
 case h_2=>exact e.elim
 rename_i bs v N ci S;split at e
 case h_2=>exact e.elim
 rename_i ce a0 d0 av ds am G F;cases j:(bg bs v&&b5 v.size 2000) with
 |false=>rw[j] at e;exact e.elim
 |true=>
  rw[j] at e;simp only[cJ] at j;obtain⟨⟨n,i⟩,⟨rfl,rfl,J,z⟩,e⟩:=e;simp only at J z e;have c2:=ha j.2;rw[G] at r;rw[F] at q;generalize ad:a.eval m=d3 at r;generalize V:a.eval c=jt at q;cases r with|val a4=>cases q with|val bl=>
  obtain⟨_,rfl⟩:=a4;obtain⟨_,rfl⟩:=bl;obtain⟨an,x,_,L,M⟩:=hf.ok N;have A:=M.lay j.1;obtain⟨t,l,aB,a3,d1,bj⟩:=w9 A am;obtain⟨dl,_,u,_⟩:=A.info;have y:=u.info;rw[aB] at y;cases y;have D:l.cells.size=v.size:=(by have:=(bj (bi I C.B) w).len;omega);have O:(t.bytes:Z)*(i:Z)<=281474976710656:=(by have:t.bytes*i<=48000*hR:=n8 (by have:=u.bytes;omega) z;grind [anP,hR]);have s:=run_make (P:=E.P) w R x t l L aB a3 a0 av (n:Z) (i:Z) aa aa O (by grind [hR]);simp only[fV,u.size] at s;rw[<-D] at s;refine .new (d:=b) (cells:=apP l.cells (i*l.cells.size)) (T:=x) (cs:=[.slice (Y ⟨w.heap.size,0,br⟩) n i]) (f:=[w.heap.size]) S p ?_ bq ?_ ac ac e
  ·simp[bP,U,ad,V,c9,s]
  refine⟨Y ⟨w.heap.size,0,br⟩,i,ac,.inr ⟨w.heap.size,0,bM n [],bq,ac,ac,ae,jf.alloc (by grind [size_madeCells]),λap bx H dg co=>?_⟩⟩;have c1:ap<n:=ae;obtain rfl:ce=bx:=ae;obtain rfl:[]=H:=ae;refine⟨l.cells.toList,aa,fG.alloc (λan d2 cv=>?_),bj _ _⟩;rw[l3,<-D];grind [aav]
def xG (tt:bp (bH×ak)) (d:bp (X×ak)) (e:bp (X×aI)) (a:X) (c:bH):iy:=
 match ax tt c,ax d a,ax e a with
 |some f,Y b,br=>match m0 b with
  |some g=>bif bg f b then .ff (.ref a []) [(a,⟨.optr b,g⟩)] else .bad
  |none=>.bad
 |_,_,_=>.bad
theorem Yields.box {g:q.den} {cs:amo} (p:ax st.h b=br) (i:cW C st a.tmps w I rt fp) (_hT:fD E.P q R) (s:(bP a.eval o).run E.P w=.ok (.value (.pointer (Y ⟨w.heap.size,0,br⟩))) (w.alloc (.cells cs.toArray R))) (u:∀k,(∀e c,bi I C.B e c->dm w k c)->aW (bi I C.B) k q cs g []) (r:Q (.ref b []) [(b,⟨.optr q,g⟩)]):Yields E C st a w I rt fp o Q:=by have l:∀e c,bi I C.B e c->dm w (w.alloc (.cells cs.toArray R)) c:=λe c m=>.of_heap ((hL.alloc w _).heap c (i.ib c (nP m)));have j:=u _ l;have n:=j.len;refine .new (d:=b) (t:=⟨.optr q,g⟩) (cs:=[.pointer (Y ⟨w.heap.size,0,br⟩)]) (f:=[w.heap.size]) p i s bq ⟨w.heap.size,0,[],cs,bq,bq,n,fG.alloc (λx y v=>by grind),jf.alloc ae,j⟩ ac ac r
theorem V7 (g:cW C st a.tmps w I rt fp) (l:o.op=.alloc R) (c:(xG E.tt k st.h b R).K Q):Yields E C st a w I rt fp o Q:=by
 unfold xG at c;split at c
 case h_2=>exact c.elim
 rename_i f p i r j;split at c
 case h_2=>exact c.elim
 rename_i v m;cases d:bg f p with
 |false=>rw[d] at c;exact c.elim
 |true=>
  rw[d] at c;have e:=(E.ok R f i).lay d;obtain⟨s,q,aB,n,t,bj⟩:=w9 e m;refine .box (cs:=q.cells.toList) j g e ?_ (λu _=>bj _ _) c;simp[bP,l,Instr.alloc,amN,am1,aB,n,newVar,ang]
def Am (tt:bp (bH×ak)) (e:bp (X×aI)) (a:X) (d:bH) (b:ao):iy:=
 match ax tt d,ax e a with
 |some f,br=>match b with
  |.val c b=>bif bg f c then .ff (.ref a []) [(a,⟨.optr c,b⟩)] else .bad
  |_=>.bad
 |_,_=>.bad
theorem WD (j:cW C st a.tmps w I rt fp) (s:o.op=.box R c) (d:(Am E.tt st.h b R (aX st.g c)).K Q):Yields E C st a w I rt fp o Q:=by
 have f:=j.aX c;unfold Am at d;split at d
 case h_2=>exact d.elim
 rename_i l q r;split at d
 case h_2=>exact d.elim
 rename_i v z n;cases e:bg l v with
 |false=>rw[e] at d;exact d.elim
 |true=>
  rw[e] at d;rw[n] at f;generalize t:a.eval c=x at f;cases f with|val i=>
  rename_i cs;have k:=(E.ok R l q).lay e;refine .box (cs:=cs) r j k ?_ (λy p=>i.mono (λu m e=>⟨e,p u m e⟩) ac) d;simp[bP,s,t,ao3,newVar,ang,pp k i.len i.one]
def coe (a:ak) (b:ao):bv a.den:=
 match b with
 |.val d b=>if h:d=a then Y (h▸b) else br
 |.eI c=>jm a c.cells.toList
 |_=>br
def Aq (a:ak):bp ao->bv (bp a.den)
 |[]=>Y []
 |x::c=>match coe a x,Aq a c with
  |some d,Y b=>Y (d::b)
  |_,_=>br
theorem IJ (i:fD E.P d R) {f:Value} (c:c0 e w s rt fp T f) {g:d.den} (a:coe d T=Y g):aW e w d f.cells.toList g []:=by
 unfold coe at a;split at a
 ·rename_i k j;split at a
  ·rename_i h;subst h;cases a;cases c with|val b=>
   rw[pp i b.len b.one];exact b
  grind
 ·cases c;exact qX a
 grind
def wU:bp (X×bO)->X->bD
 |[],_=>bt
 |q::b,a=>bL q.1 a&&wU b (a+1)
def xP (tt:bp (bH×ak)) (g:bp (X×ak)) (i:bp (X×aI)) (h:bO->ao) (b:X) (f:bH) (d:X) (c:bp (X×bO)):iy:=
 match hf tt f,ax i b with
 |some e,br=>
  let a:=match ax g b with|some (.osl a)=>a|_=>e
  bif bg e a&&b5 a.size 2000&&b5 d 1000&&wU c 0&&bL c.length d then
   match Aq a (c.map λj=>h j.2) with
   |some k=>.ff (.ref b []) [(b,⟨.osl a,k⟩)]
   |none=>.bad
  else .bad
 |_,_=>.bad
theorem OC {d:ak}:∀{c:bp ao} {b:bp d.den},Aq d c=Y b->b.length=c.length/\∀(e:X) (f:d.den),b[e]?=Y f->∃y:ao,c[e]?=Y y/\coe d y=Y f
 |[],b,a=>by cases a;grind
 |y::c,b,a=>by
  simp only[Aq] at a;split at a
  ·rename_i l k j g;cases a;obtain⟨h,i⟩:=OC g;grind
  grind
theorem sR:∀{e:bp (X×bO)} {d:X},wU e d=bt->∀(a:X) (b:X×bO),e[a]?=Y b->b.1=d+a
 |[],_,_,a,b,c=>by grind
 |x::e,d,c,a,b,f=>by
  simp only[wU,cJ] at c;cases a with
  |zero=>simp_all
  |succ a=>have:=sR c.2 a b ae;omega
theorem WH (D:cW C st a.tmps w I rt fp) {i:bW (X×bO)} (ds:o.op=.buildSlice R b i) (j:(xP E.tt k st.h (aX st.g) V R b i.toList).K Q):Yields E C st a w I rt fp o Q:=by
 unfold xP at j;split at j
 case h_2=>exact j.elim
 rename_i a0 co cv;generalize fn:(match ax k V with|some (.osl e)=>e|_=>a0)=e at j;simp only at j;cases m:(bg a0 e&&b5 e.size 2000&&b5 b 1000&&wU i.toList 0&&bL i.toList.length b) with
 |false=>rw[m] at j;exact j.elim
 |true=>
  rw[m] at j;simp only[cJ] at m;obtain⟨⟨⟨⟨a3,y⟩,z⟩,A⟩,M⟩:=m;have y:=ha y;have z:=ha z;have M:i.toList.length=b:=fJ M;simp only[bI] at j;split at j
  case h_2=>exact j.elim
  rename_i q d4;obtain⟨am,J,_,ce,ci⟩:=hf.ok co;have s:=ci.lay a3;obtain⟨G,d8,an,_⟩:=s.info;have ex:=s.pos;obtain⟨a4,bl⟩:=OC d4;simp only[eL] at a4;have d3:q.length=b:=aa;have em:b*e.size<=16777216:=(by have:b*e.size<=1000*2000:=n8 z y;omega);have N:∀(c:X) (l:X×bO),i.toList[c]?=Y l->∃n:e.den,q[c]?=Y n/\aW (bi I C.B) w e (a.eval l.2).cells.toList n []:=(by intro c l u;have dg:c<q.length:=ae;obtain⟨f5,ar,v⟩:=bl c q[c] ac;rw[jv,u] at ar;simp only[jT,e9] at ar;subst ar;exact⟨q[c],ac,IJ s (D.aX l.2) v⟩);obtain⟨ad,c1,c2⟩:∃hh:eB,(b*e.size=0->hh=#[])/\(b*e.size≠0->∃r,(amN J).run E.P w=.ok r w/\hh=r.cells):=by
   by_cases p:b*e.size=0
   ·simp_all
   obtain⟨r,_,d6⟩:=fD.Ka s;exact⟨r.cells,λj=>absurd j p,λ_=>⟨r,by simp[amN,am1,an.info,d6 G an.info],bq⟩⟩
  obtain⟨ap,av,fT,f0,aY⟩:=Br (λG=>Y (G*e.size,e.size)) (i.toList.map λl=>(l.1,a.eval l.2)) ((Array.range (b*e.size)).map (ad[· %ad.size]!)) (by
   intro l d1;obtain⟨fz,d0,rfl⟩:=eT.1 d1;obtain⟨c,u,rfl⟩:=hN.1 d0;have x:i.toList[c]?=Y i.toList[c]:=ac;obtain⟨n,_,F⟩:=N c _ x;have d9:=sR A c _ x;have:(c+1)*e.size<=b*e.size:=hW _ aa;rw[la,iL] at this;refine⟨_,_,bq,by have:=F.len;omega,?_⟩;grind) (by
   rw[iw];intro c H u dl dg fs f1 ft f3 ar v;simp only[pH,e9,iN] at ar v;simp only[eL] at u dl;have bs:=sR A c i.toList[c] ac;have f2:=sR A H i.toList[H] ac;obtain⟨rfl,rfl⟩:=ar;obtain⟨rfl,rfl⟩:=v;left;rw[bs,f2];have:(0+c+1)*e.size<=(0+H)*e.size:=hW _ aa;grind)
  have fl:ap.size=b*e.size:=ae;refine .new (d:=V) (t:=⟨.osl e,q⟩) (cells:=ap) (T:=J) (cs:=[.slice (Y ⟨w.heap.size,0,br⟩) b b]) (f:=[w.heap.size]) cv D ?_ bq ?_ ac ac j
  ·have d2:=s.sizeOf w;have eq:¬(16777216<b*e.size):=aa;have O:(ao4 (λn=>(n.fst,a.eval n.snd)) i).toList=i.toList.map λl=>(l.1,a.eval l.2):=ac;simp only[bP,ds,Instr.buildSlice,b0,cd ce,b4,d2];rw[aw aa];by_cases p:b*e.size=0
   ·rw[ay p];obtain rfl:=c1 p;rw[O];simp only[b0,cz,b4,av,ang,newObj];rfl
   rw[aw p];obtain⟨r,d5,rfl⟩:=c2 p;rw[O];simp only[b0,cz,b4,d5,av,ang,newObj];rfl
  refine⟨Y ⟨w.heap.size,0,br⟩,b,by rw[d3],.inr ⟨w.heap.size,0,bM b [],bq,ac,ae,ae,jf.alloc aa,λc n bx F ek=>?_⟩⟩;have u:c<b:=ae;obtain rfl:[]=bx:=ae;have x:i.toList[c]?=Y (i.toList[c]'(by omega)):=by simp
  obtain⟨f4,U,S⟩:=N c _ x;rw[F] at U;obtain rfl:=gn U;refine⟨_,S.len,fG.alloc (λam d7 el=>?_),S.mono (λfr L m=>⟨m,.of_heap ((hL.alloc w _).heap L (D.ib L (nP m)))⟩) ac⟩;have:=aY (i.toList[c].1,a.eval i.toList[c].2) (eT.2 ⟨i.toList[c],cT _,bq⟩) _ _ rfl am d7 ae;grind [sR]
end
end
section
def mQ (a:bp (X×bO)) (b:X):eA:=ax a b
def rf (
 g:bO->ao) (e:bp (X×bO)):ak->X->bv aI
 |.pr a h,d=>
  match(match mQ e d with
   |none=>match m0 a with
    |some j=>Y (⟨a,j⟩:aI)
    |none=>br
   |some c=>match g c with
    |.val f b=>bif bg a f then Y ⟨f,b⟩ else br
    |.eI i=>match jm a i.cells.toList with
     |some b=>Y ⟨a,b⟩
     |none=>br
    |_=>br),rf g e h (d+1) with
  |some c,Y b=>Y ⟨.pr c.1 b.1,(c.2,b.2)⟩
  |_,_=>br
 |.nil,_=>Y ⟨.nil,()⟩
 |_,_=>br
def nj:bp (X×bO)->X->bD
 |[],_=>bt
 |q::b,a=>b5 a q.1&&nj b (q.1+1)
def gY:ak->X
 |.pr _ a=>gY a+1
 |_=>0
theorem Ke:∀{e:bp (X×bO)} {d:X},nj e d=bt->∀b∈e,d<=b.1
 |[],_,_,b,a=>by cases a
 |x::e,d,a,b,c=>by
  simp only[nj,cJ] at a;rcases fH.1 c with rfl|c
  ·simp_all
  have:=Ke a.2 b c;have:=ha a.1;omega
def Kg:∀{b:bp (X×bO)} {d:X},nj b d=bt->b.Pairwise λc f=>c.1<f.1
 |[],_,_=>aoy
 |x::b,d,a=>by simp only[nj,cJ] at a;exact ash (λc e=>by have:=Ke a.2 c e;omega) (Kg a.2)
theorem BJ {e:Type}:∀{d:bp (X×e)} {b:X} {c:e},ax d b=Y c->(b,c)∈d
 |[],_,_,a=>by cases a
 |(f,v0)::r,b,c,a=>by
  rw[eJ] at a;split at a
  ·grind
  exact gH _ (BJ a)
def KH {g:Type}:∀{e:bp (X×g)} {d:X},ax e d=br->∀c∈e,c.1≠d
 |[],_,_,c,a=>by cases a
 |(h,v0)::r,d,b,c,a=>by
  rw[eJ] at b;split at b
  ·cases b
  rename_i f;rcases fH.1 a with rfl|a
  ·exact f
  exact KH b c a
theorem sH {j:b2}:∀{u:ak} {l:bp amS} {e:X} {f:amo},je j u l e f->∀d,d<gY u->∃h i,fS u d=Y (h,i)
 |.pr a g,k::m,e,f,c,0,_=>⟨_,_,bq⟩
 |.pr a g,k::m,e,f,c,d+1,b=>by obtain⟨h,i,n⟩:=sH (u:=g) c.2.2.2.2 d (by grind [gY]);grind [fS]
 |.pr _ _,[],_,_,c,_,_=>c.elim
 |.int _,_,_,_,_,_,b|.bool,_,_,_,_,_,b|.str,_,_,_,_,_,b|.bc _ _,_,_,_,_,_,b|.osl _,_,_,_,_,_,b|.ptr _ _,_,_,_,_,_,b|.optr _,_,_,_,_,_,b|.st _,_,_,_,_,_,b|.nil,_,_,_,_,_,b|.eO,_,_,_,_,_,b=>by grind [gY]
theorem wg:∀{u:ak} {e c:X} {s s':bp a6} {t t':ak},fS u e=Y (s,t)->fS u c=Y (s',t')->e<c->fO u e+t.size<=fO u c
 |.pr a f,0,c+1,s,s',t,t',b,d,_=>by simp only[fS,e9,iN] at b;obtain⟨_,rfl⟩:=b;simp[fO]
 |.pr a f,e+1,c+1,s,s',t,t',b,d,k=>by
  simp only[fS] at b d;cases g:fS f e with
  |none=>grind
  |some i=>
   cases h:fS f c with
   |none=>grind
   |some j=>
    rw[g] at b;rw[h] at d;simp only[e9,iN] at b d;obtain⟨_,rfl⟩:=b;obtain⟨_,rfl⟩:=d;have:=wg (u:=f) (s:=i.1) (t:=i.2) (s':=j.1) (t':=j.2) g h aa;grind [fO]
 |.int _,_,_,_,_,_,_,b,_,_|.bool,_,_,_,_,_,_,b,_,_|.str,_,_,_,_,_,_,b,_,_|.bc _ _,_,_,_,_,_,_,b,_,_|.osl _,_,_,_,_,_,_,b,_,_|.ptr _ _,_,_,_,_,_,_,b,_,_|.optr _,_,_,_,_,_,_,b,_,_|.st _,_,_,_,_,_,_,b,_,_|.nil,_,_,_,_,_,_,b,_,_|.eO,_,_,_,_,_,_,b,_,_=>by cases b
theorem JR:∀{u:ak} {c:X} {s:bp a6} {t:ak},fS u c=Y (s,t)->c<gY u
 |.pr a d,0,_,_,_=>by simp[gY]
 |.pr a d,c+1,s,t,b=>by
  simp only[fS] at b;split at b
  ·rename_i e f;have:=JR (u:=d) (s:=e.1) (t:=e.2) f;grind [gY]
  grind
 |.int _,_,_,_,b|.bool,_,_,_,b|.str,_,_,_,b|.bc _ _,_,_,_,b|.osl _,_,_,_,b|.ptr _ _,_,_,_,b|.optr _,_,_,_,b|.st _,_,_,_,b|.nil,_,_,_,b|.eO,_,_,_,b=>by cases b
theorem Kf:∀{d:bp (X×bO)} {e:X} {b:X×bO},nj d e=bt->b∈d->mQ d b.1=Y b.2
 |[],_,_,_,a=>by cases a
 |x::d,e,b,a,c=>by
  simp only[nj,cJ] at a;obtain⟨f,g⟩:=x;unfold mQ;rw[eJ];rcases fH.1 c with rfl|c
  ·rw[ay bq]
  have:=Ke a.2 b c;simp only at this;rw[aw aa];exact Kf a.2 c
section
variable {E:fP} {C:fg} {st:aR} {a:Act} {w:bF} {I:X->Prop} {rt:X->amo} {fp:X->amu} {o:bU} {Q:ao->bp (X×aI)->Prop}
def Al (tt:bp (bH×ak)) (e:bO->ao) (d:bH) (a:bp (X×bO)):iy:=
 match mg tt d with
 |none=>.bad
 |some c=>bif nj a 0&&a.all (λf=>cg f.1 (gY c)) then match rf e a c 0 with
  |some b=>.ff (.val (.st b.1) b.2) []
  |none=>.bad
  else .bad
theorem Q6 {z:b2} {l:eM->X->Prop} {b:bp (X×aI)} {q:bO->ao} {j:bO->Value} (v:∀c,c0 l w b rt fp (q c) (j c)) {parts:bp (X×bO)} {cells:amo}:∀{u:ak} {n:X} {B:bp amS} {off:X} {zs:amo} {i:aI},je z u B off zs->rf q parts u n=Y i->cells.length=off+u.size->(∀e p d,fS u e=Y (p,d)->(∀c,mQ parts (n+e)=Y c->(j c).cells.size=d.size/\(cells.drop (off+fO u e)).take d.size=(j c).cells.toList)/\(mQ parts (n+e)=br->(cells.drop (off+fO u e)).take d.size=(zs.drop (fO u e)).take d.size))->aW l w i.1 (cells.drop off) i.2 []/\i.1.size=u.size
 |.pr a A,n,L::V,off,zs,i,r,g,E,o=>by
  simp only[rf] at g;split at g
  case h_2=>cases g
  rename_i c am h I;cases g;obtain⟨M,C,N,⟨R,an,aB,T,U⟩,D⟩:=r;have t:=o 0 _ a bq;simp only[m4,fO,nC] at t;have O:aW l w c.1 ((cells.drop off).take a.size) c.2 []/\c.1.size=a.size:=by
   split at h
   ·grind [w9]
   rename_i k F;have f:=v k;obtain⟨S,x⟩:=t.1 k F;split at h
   ·rename_i d K m;cases s:bg a d with
    |false=>grind
    |true=>
     rw[s] at h;cases h;rw[m] at f;rw[x];generalize H:j k=J at f;cases f with|val y=>
     rw[pp (C.lay s) y.len y.one];grind [bg.size]
   ·rename_i J m;split at h
    ·rename_i K Q;cases h;rw[m] at f;rw[x];generalize H:j k=ad at f;cases f;grind [qX]
    grind
   grind
  have P:=Q6 v (parts:=parts) (cells:=cells) (u:=A) (n:=n+1) (off:=off+a.size) (zs:=zs.drop a.size) D I (by grind [ak.size]) (by
   intro e p d G;have:=o (e+1) (.snd::p) d (by simp[fS,G]);grind [List.drop_drop,fO])
  refine⟨⟨[],[],bq,?_,?_⟩,by grind [ak.size]⟩
  ·grind
  simp_all
 |.nil,n,[],off,zs,i,r,g,E,o=>by cases g;exact⟨⟨bq,by grind [List.drop_eq_nil_iff,ak.size]⟩,bq⟩
 |.pr _ _,_,[],_,_,_,b,_,_,_|.nil,_,_::_,_,_,_,b,_,_,_=>b.elim
 |.int _,_,_,_,_,_,b,_,_,_|.bool,_,_,_,_,_,b,_,_,_|.str,_,_,_,_,_,b,_,_,_|.bc _ _,_,_,_,_,_,b,_,_,_|.osl _,_,_,_,_,_,b,_,_,_|.ptr _ _,_,_,_,_,_,b,_,_,_|.optr _,_,_,_,_,_,b,_,_,_|.st _,_,_,_,_,_,b,_,_,_|.eO,_,_,_,_,_,b,_,_,_=>by cases b
theorem Q7 {z:b2} {m:eM->X->Prop} {b:bp (X×aI)} {o:bO->ao} {h:bO->Value} (p:∀c,c0 m w b rt fp (o c) (h c)) {s:bp (X×bO)}:∀{u:ak} {n:X} {B:bp amS} {r:X} {y:amo} {x:aI},je z u B r y->rf o s u n=Y x->∀e v g,fS u e=Y (v,g)->∀c,mQ s (n+e)=Y c->(h c).cells.size=g.size
 |.pr a A,n,N::T,r,y,x,E,k,e,v,g,d,c,q=>by
  simp only[rf] at k;split at k
  case h_2=>cases k
  rename_i V ad i I;obtain⟨O,C,P,⟨Q,am,aB,R,S⟩,D⟩:=E;cases e with
  |zero=>
   simp only[fS,e9,iN] at d;obtain⟨_,rfl⟩:=d;rw[m4] at q;rw[q] at i;have f:=p c;simp only at i;split at i
   ·rename_i g L j;cases F:bg a g with
    |false=>grind
    |true=>
     rw[j] at f;generalize H:h c=K at f;cases f with|val l=>
     rw[pp (C.lay F) l.len l.one];have:=l.len;grind [bg.size]
   ·rename_i K j;split at i
    ·rename_i L J;rw[j] at f;generalize H:h c=U at f;cases f;have:=(qX (M:=m) (w:=w) J).len;omega
    grind
   grind
  |succ e=>
   simp only[fS] at d;split at d
   ·rename_i t G;simp only[e9,iN] at d;obtain⟨_,rfl⟩:=d;exact Q7 p (u:=A) (n:=n+1) D I e t.1 t.2 G c (by rwa[(aa:n+1+e=n+(e+1))])
   grind
 |.pr _ _,_,[],_,_,_,b,_,_,_,_,_,_,_=>b.elim
 |.nil,_,_,_,_,_,_,_,_,_,_,d,_,_=>by cases d
 |.int _,_,_,_,_,_,b,_,_,_,_,_,_,_|.bool,_,_,_,_,_,b,_,_,_,_,_,_,_|.str,_,_,_,_,_,b,_,_,_,_,_,_,_|.bc _ _,_,_,_,_,_,b,_,_,_,_,_,_,_|.osl _,_,_,_,_,_,b,_,_,_,_,_,_,_|.ptr _ _,_,_,_,_,_,b,_,_,_,_,_,_,_|.optr _,_,_,_,_,_,b,_,_,_,_,_,_,_|.st _,_,_,_,_,_,b,_,_,_,_,_,_,_|.eO,_,_,_,_,_,b,_,_,_,_,_,_,_=>by cases b
theorem run_places {P:b2} (w:bF):∀(d:ak) (h:bp amS) (c:X) (g:amo),je P d h c g->(h.mapM λe=>do anQ (e.offset,<-anm e.type):Sem amw).run P w=.ok ((bK (gY d)).map λf=>(c+fO d f,match fS d f with|some k=>k.2.size|none=>0)) w
 |.pr a i,e::l,c,g,b=>by have j:=run_places w i l (c+a.size) (g.drop a.size) b.2.2.2.2;simp only[List.mapM_cons,b0,b.2.1.sizeOf,b4,cz,j];simp only[gY,List.range_succ_eq_map,hA,qD,b.1,fO,m4,fS];congr 2;apply iY;intro f _;simp only[Function.comp,fO,fS];grind
 |.nil,[],_,_,_=>rfl
 |.pr _ _,[],_,_,b|.nil,_::_,_,_,b=>b.elim
 |.int _,_,_,_,b|.bool,_,_,_,b|.str,_,_,_,b|.bc _ _,_,_,_,b|.osl _,_,_,_,b|.ptr _ _,_,_,_,b|.optr _,_,_,_,b|.st _,_,_,_,b|.eO,_,_,_,b=>by cases b
theorem WA (ap:cW C st a.tmps w I rt fp) {i:bW (X×bO)} (c1:o.op=.build R i) (e:(Al E.tt (aX st.g) R i.toList).K Q):Yields E C st a w I rt fp o Q:=by
 unfold Al at e;split at e
 ·exact e.elim
 rename_i b N;cases p:(nj i.toList 0&&i.toList.all (λc=>cg c.1 (gY b))) with
 |false=>rw[p] at e;exact e.elim
 |true=>
  rw[p] at e;simp only[cJ,hk] at p;obtain⟨a3,D⟩:=p;simp only[bI] at e;split at e
  case h_2=>exact e.elim
  rename_i d5 av;obtain⟨q,r,j,a4,d8,bl,bs,m,d9⟩:∃q r j,E.P.info? R=some q/\q.size=b.size/\q.zero=some (.agg j)/\E.P.underlying R=some (.struct r)/\je E.P b r.toList 0 j.toList/\j.size=b.size:=by
   unfold mg at N;split at N
   ·rename_i f0 ce;cases N;obtain⟨_,q,r,j,aB,ex,_,bj,fl,fn,fr⟩:=E.ok R _ ce;grind
   grind
  have S:=Q7 (λd=>ap.aX d) m av;have O:=run_places (P:=E.P) w b r.toList 0 j.toList m;simp only[l3] at O S;generalize el:((bK (gY b)).map λk=>(fO b k,match fS b k with|some c=>c.2.size|none=>0))=U at O;have y:∀k L l,fS b k=Y (L,l)->k<gY b->U.toArray[k]?=Y (fO b k,l.size):=ae;obtain⟨J,d1,fs,d2,aY⟩:=Br (λq=>U.toArray[q]?) (i.toList.map λc=>(c.1,a.eval c.2)) j (by
   intro c z;obtain⟨h,F,rfl⟩:=eT.1 z;have t:h.1<gY b:=ha (D h F);obtain⟨L,l,f⟩:=sH m h.1 t;refine⟨_,_,y _ _ _ f t,S _ _ _ f h.2 ?_,by simp_all [yr]⟩;grind [Kf]) (by
   rw[n6];refine(Kg a3).imp_of_mem ?_;intro c V z dl t d0 d3 eq ft ar ad;have B:c.1<gY b:=ha (D c z);have a0:V.1<gY b:=ha (D V dl);obtain⟨d4,d6,s⟩:=sH m c.1 B;obtain⟨fz,fT,p⟩:=sH m V.1 a0;rw[y _ _ _ s B] at ar;rw[y _ _ _ p a0] at ad;cases ar;cases ad;exact .inl (wg s p t))
  have em:J.toList.length=b.size:=ae;obtain⟨an,d7⟩:=Q6 (w:=w) (λd=>ap.aX d) (parts:=i.toList) (cells:=J.toList) (u:=b) (n:=0) (off:=0) m av aa (by
   intro H L l f;have ci:H<gY b:=JR f;simp only[l3];have ek:=yr f;refine⟨λd G=>?_,λG=>?_⟩
   ·have co:=BJ G;have T:=S H L l f d G;refine⟨T,?_⟩;apply iJ;intro A;rcases c6 A l.size with x|x
    ·obtain⟨M,ds⟩:∃M,(a.eval d).cells[A]?=some M:=⟨_,CQ aa⟩;have:=aY (H,a.eval d) (eT.2 ⟨(H,d),co,bq⟩) _ _ (y _ _ _ f ci) A M ds;grind
    grind
   apply iJ;intro A;rcases c6 A l.size with x|x
   ·rw[te x,te x,qA,qA];simp only[CR];refine d2 _ ?_;intro c z d0 d3 ar;obtain⟨h,F,rfl⟩:=eT.1 z;have cv:=KH G h F;have B:h.1<gY b:=ha (D h F);obtain⟨d4,d6,s⟩:=sH m h.1 B;rw[y _ _ _ s B] at ar;cases ar;rcases Nat.lt_or_gt_of_ne cv with t|bx
    ·have:=wg s f t;omega
    have:=wg f s bx;omega
   grind)
  rw[nC] at an;refine .pure (v:=.agg J) ?_ (.val (τ:=.st d5.1) (cs:=J.toList) an) e;have dg:(ao4 (λd=>(d.fst,a.eval d.snd)) i).toList=i.toList.map λc=>(c.1,a.eval c.2):=ac;have c2:(r.mapM λam=>do anQ (am.offset,<-anm am.type):Sem (bW es)).run E.P w=.ok U.toArray w:=(by rw[apQ,Sem.run_map,O];rfl);have T:(amN R).run E.P w=.ok (.agg j) w:=(by simp[amN,am1,a4,bl]);simp only[bP,c1,Instr.build,b0,T,cd bs,b4,c2,dg,Value.cells,d1];rfl
end
end
section
def gk {α:Type}:bp (Z×α)->Z->bv α
 |[],_=>br
 |(a,v)::r,k=>if a=k then Y v else gk r k
def kK {α:Type}:bp (Z×α)->Z->α->bp (Z×α)
 |[],k,v=>[(k,v)]
 |(a,u)::r,k,v=>if k<a then(k,v)::(a,u)::r else if k=a then(k,v)::r else(a,u)::kK r k v
def jW {α:Type} (l:bp (Z×α)) (a:Z):bp (Z×α):=l.filter λb=>bw (b.1≠a)
def gW {α:Type} (b:bv (bp (Z×α)×X)) (a:Z):bv α:=b.bind λc=>gk c.1 a
def yN {α:Type} (a:bv (bp (Z×α)×X)):Z:=match a with|some b=>(b.1.length:Z)|none=>0
section
variable {α:Type}
theorem Ga:∀{l:bp (Z×α)} {c:Z} {d:α},gk l c=Y d->(c,d)∈l
 |[],_,_,b=>by cases b
 |(a,u)::r,c,d,b=>by
  simp only[gk] at b;split at b
  ·grind
  exact gH _ (Ga b)
theorem QQ:∀{l:bp (Z×α)} {c:Z},gk l c=br->∀d,(c,d)∉l
 |[],_,_,_=>by simp
 |(a,u)::r,c,b,d=>by
  simp only[gk] at b;split at b
  ·cases b
  rename_i g;intro f;rcases fH.1 f with e|e
  ·grind
  exact QQ b d e
theorem TZ {l:bp (Z×α)} (c:l.Pairwise (λa b=>a.1<b.1)):(l.map (·.1)).Nodup:=by grind
theorem aat {l:bp (Z×α)} (c:(l.map (·.1)).Nodup) {a:Z} {b:α}:gk l a=Y b↔(a,b)∈l:=by
 constructor
 ·exact Ga
 intro d
 induction l with
 |nil=>cases d
 |cons e h g=>
  obtain⟨f,i⟩:=e;simp only[hA,kS] at c;simp only[gk];grind
theorem QR:∀{l:bp (Z×α)} {d:Z} {e:α} {c:Z×α},c∈kK l d e->c=(d,e)\/c∈l
 |[],d,e,c,b=>by grind [kK]
 |(a,u)::r,d,e,c,b=>by
  simp only[kK] at b;split at b
  ·grind
  split at b
  ·grind
  rcases fH.1 b with b|b
  ·grind
  exact(QR b).imp id (gH _)
theorem KO:∀{l:bp (Z×α)} {c:Z} {d:α},l.Pairwise (λa b=>a.1<b.1)->(kK l c d).Pairwise (λa b=>a.1<b.1)
 |[],c,d,_=>by simp[kK]
 |(a,u)::r,c,d,h=>by
  rw[nF] at h;simp only[kK];split
  ·grind [aoz]
  rename_i g;split
  ·grind [aoz]
  rename_i f;rw[nF];refine⟨λi e=>?_,KO h.2⟩;rcases QR e with rfl|e
  ·omega
  grind
def aar {l:bp (Z×α)} {d:Z} (c:l.Pairwise (λa b=>a.1<b.1)):(jW l d).Pairwise (λa b=>a.1<b.1):=c.filter _
theorem KN:∀{l:bp (Z×α)} {k:Z} {v:α},l.Pairwise (λa b=>a.1<b.1)->(kK l k v).Perm ((k,v)::jW l k)
 |[],k,v,_=>by simp[kK,jW]
 |(a,u)::r,k,v,h=>by
  rw[nF] at h;simp only[kK];split
  ·rename_i d;have:jW ((a,u)::r) k=(a,u)::r:=by
    unfold jW;grind [an5]
   rw[this]
  rename_i d;split
  ·rename_i c;subst c;have:jW ((k,u)::r) k=r:=by
    unfold jW;rw[nD,aw ac,nE];grind
   rw[this]
  rename_i c;have:jW ((a,u)::r) k=(a,u)::jW r k:=(by unfold jW;grind);rw[this];exact((KN h.2).cons _).trans (.swap _ _ _)
end
section
variable {P:b2} {w:bF} {b:X} {fk:bW cp} {c:X}
theorem ow:jF w b=Y (fk,c)↔w.heap[b]?=Y (.map fk c):=by grind [jF]
def rz (a:w.heap[b]?=Y (.map fk c)):(setObj b (.map n h)).run P w=.ok () {w with heap:=w.heap.setIfInBounds b (.map n h)}:=by simp[setObj,Sem.run,a]
def run_getObj_map (a:w.heap[b]?=Y (.map fk c)):(getObj b).run P w=.ok (.map fk c) w:=by simp[getObj,Sem.run,a]
def PB {j:cn} (b:Z):∀(fk:bp cp) (c:amv) (d:X),fk.map (·.key)=c.map (amJ .i64)->b∉c->an6 (.int j) (.int .i64 b) fk d=Y br
 |[],_,_,_,_=>rfl
 |e::fk,[],_,a,_=>by cases a
 |e::fk,f::c,d,a,h=>by simp only[hA,ij] at a;have i:(b==f)=bu:=ae;simp only[an6,a.1,apR,cq,i];exact PB b fk c (d+1) a.2 (λg=>h (gH _ g))
theorem PC {kd:cn} (b:Z):∀(fk:bp cp) (d:amv) (f:X),fk.map (·.key)=d.map (amJ .i64)->b∈d->∃c e,d[c]?=Y b/\fk[c]?=Y e/\an6 (.int kd) (.int .i64 b) fk f=Y (Y (f+c,e.val))
 |[],[],_,_,a|[],_::_,_,a,_|e::fk,[],_,a,_=>by cases a
 |e::fk,g::d,f,a,m=>by
  simp only[hA,ij] at a;by_cases h:b=g
  ·subst h;refine⟨0,e,bq,bq,?_⟩;simp_all [cq,am2,an6,apR]
  have n:(b==g)=bu:=ae;obtain⟨c,i,j,k,l⟩:=PC b fk d (f+1) a.2 ((fH.1 m).resolve_left h);refine⟨c+1,i,by simpa using j,by simpa using k,?_⟩;simp only[an6,a.1,apR,cq,n];rw[l];grind
structure hO (M:eM->X->Prop) (w:bF) (t:ak) (b:X) (l:bp (Z×t.den)) (c:X) (fk:bW cp) (L:bp (Z×X×t.den)):Prop where
 p9:k9 L l c
 h:w.heap[b]?=Y (.map fk c)
 n:fk.size=L.length
 e:∀(i:X) (q:Z×X×t.den),L[i]?=Y q->∃ds:amo,ds.length=t.size/\fk[i]?=Y (aoZ (.int .i64 q.1) (c9 t ds) q.2.1)/\aW M w t ds q.2.2 []
variable {M:eM->X->Prop} {t:ak} {l:bp (Z×t.den)} {L:bp (Z×X×t.den)}
theorem hO.keys (f:hO M w t b l c fk L):fk.toList.map (·.key)=(L.map (·.1)).map (amJ .i64):=by
 apply iJ;intro d;simp only[jv,CR];rcases c6 d L.length with a|a
 ·obtain⟨g,_,h,_⟩:=f.e d L[d] (cH a);grind
 rw[rS a,Array.getElem?_eq_none (by rw[f.n];exact a)];rfl
def k9.keys {α:Type} {L:bp (Z×X×α)} {l:bp (Z×α)} {c:X} (a:k9 L l c):(L.map (·.1)).Perm (l.map (·.1)):=by have:=a.2.1.map (·.1);rwa[qD] at this
def k9.nd {α:Type} {L:bp (Z×X×α)} {l:bp (Z×α)} {c:X} (a:k9 L l c):(L.map (·.1)).Nodup:=a.keys.nodup_iff.2 (TZ a.1)
def k9.mem {α:Type} {L:bp (Z×X×α)} {l:bp (Z×α)} {c:X} (b:k9 L l c) {a:Z×X×α} (d:a∈L):gk l a.1=Y a.2.2:=
 (aat (TZ b.1)).2 (b.2.1.mem_iff.1 (eT.2 ⟨a,d,bq⟩))
theorem k9.len {α:Type} {L:bp (Z×X×α)} {l:bp (Z×α)} {c:X} (a:k9 L l c):L.length=l.length:=by have:=a.2.1.length_eq;grind
theorem Mb {P:b2} {w:bF} {c:cn} (f:P.underlying a=Y (.int c)) {b:Z} {fk:bp cp} {d:bv (X×Value)} (e:an6 (.int c) (.int .i64 b) fk 0=Y d):(aoA a (.int .i64 b) fk).run P w=.ok d w:=by simp_all [b0,cd,b4,aoA]
def pq {P:b2} {w:bF} {e:cn} (c:P.underlying a=Y (.int e)) (b:bD) (f:X) (d:Z):(aq4 b (f+1) a (.int .i64 d)).run P w=.ok () w:=by simp[aq4,b0,cd c]
theorem hO.find (j:hO M w t b l c fk L) {p:cn} (v:P.underlying a=Y (.int p)) (d:Z):(gk l d=br/\(∀o∈L,o.1≠d)/\∀f,(aoA a (.int .i64 d) fk.toList).run P f=.ok br f)\/∃h m i g,gk l d=Y i/\L[h]?=Y (d,m,i)/\g.length=t.size/\fk[h]?=Y ⟨.int .i64 d,c9 t g,m⟩/\aW M w t g i []/\∀f,(aoA a (.int .i64 d) fk.toList).run P f=.ok (Y (h,c9 t g)) f:=by
 by_cases k:d∈L.map (·.1)
 ·obtain⟨h,r,s,u,A⟩:=PC (kd:=p) d fk.toList _ 0 j.keys k;rw[jv] at s;obtain⟨⟨B,m,i⟩,n,rfl⟩:=fQ.1 s;obtain⟨g,x,q,d3⟩:=j.e h _ n;rw[CR,q] at u;cases u;refine .inr ⟨h,m,i,g,j.p9.mem (qE n),n,x,q,d3,λf=>Mb v ?_⟩;grind
 refine .inl ⟨?_,λo z r=>k (eT.2 ⟨o,z,r⟩),λf=>Mb v (PB d _ _ 0 j.keys k)⟩;cases y:gk l d with
 |none=>rfl
 |some i=>exact absurd (j.p9.keys.mem_iff.2 (eT.2 ⟨_,Ga y,bq⟩)) k
def hO.empty (M:eM->X->Prop) (t:ak) (a:w.heap[b]?=Y (.map #[] 0)):hO M w t b [] 0 #[] []:=
 ⟨⟨.nil,.refl _,.nil,ac⟩,a,bq,ac⟩
def wC {α:Type} (L:bp (Z×X×α)) (a:Z) (d:α) (c:X):bp (Z×X×α)×X:=
 if a∈L.map (·.1) then(L.map λb=>if b.1=a then(a,b.2.1,d) else b,c) else(L++[(a,c,d)],c+1)
theorem Sy {α:Type} {c:Z} {g:α}:∀{b:bp (Z×α)},(b.map (·.1)).Nodup->c∈b.map (·.1)->(b.map λd=>if d.1=c then(c,g) else d).Perm ((c,g)::jW b c)
 |[],_,e=>by cases e
 |(a,u)::b,e,j=>by
  simp only[hA,kS] at e;simp only[hA];by_cases h:a=c
  ·subst h;rw[ay bq];have i:(b.map λd=>if d.1=a then(a,g) else d)=b:=by
    conv=>rhs;rw[<-List.map_id b]
    refine iY λd k=>?_;grind
   have f:jW ((a,u)::b) a=b:=(by unfold jW;rw[nD,aw ac,nE];grind);rw[i,f]
  rw[aw h];have f:jW ((a,u)::b) c=(a,u)::jW b c:=(by simp_all [nD,ay,jW]);rw[f];refine((Sy e.2 ?_).cons _).trans (.swap _ _ _);grind
theorem k9.put {α:Type} {L:bp (Z×X×α)} {l:bp (Z×α)} {c:X} (e:k9 L l c) (d:Z) (g:α):k9 (wC L d g c).1 (kK l d g) (bif (gk l d).isSome then c else c+1)/\(wC L d g c).2=(bif (gk l d).isSome then c else c+1):=by
 have i:(gk l d).isSome=bw (d∈L.map (·.1)):=by
  by_cases h:d∈L.map (·.1)
  ·obtain⟨a,f,rfl⟩:=eT.1 h;rw[e.mem f,amA h];rfl
  rw[amT h];cases i:gk l d with
  |none=>rfl
  |some v=>exact absurd (e.keys.mem_iff.2 (eT.2 ⟨_,Ga i,bq⟩)) h
 rw[i];unfold wC;have n:((L.map λa=>(a.1,a.2.2)).filter λa=>bw (a.1≠d)).Perm (jW l d):=e.2.1.filter _;by_cases h:d∈L.map (·.1)
 ·rw[ay h,amA h];refine⟨⟨KO e.1,?_,?_,?_⟩,bq⟩
  ·have ar:((L.map λa=>if a.1=d then(d,a.2.1,g) else a).map λa=>(a.1,a.2.2))=(L.map λa=>(a.1,a.2.2)).map λa=>if a.1=d then(d,g) else a:=by
    simp only[qD];refine iY λa _=>?_;grind
   show((L.map λa=>if a.1=d then(d,a.2.1,g) else a).map λa=>(a.1,a.2.2)).Perm _;rw[ar];refine(Sy ?_ ?_).trans ((n.cons _).trans (KN e.1).symm)
   ·rw[qD];exact e.nd
   grind
  ·have ar:((L.map λa=>if a.1=d then(d,a.2.1,g) else a).map λa=>a.2.1)=L.map λa=>a.2.1:=by
    grind [amU,List.map_map]
   show((L.map λa=>if a.1=d then(d,a.2.1,g) else a).map λa=>a.2.1).Nodup;rw[ar];exact e.2.2.1
  intro a f;obtain⟨p,o,rfl⟩:=eT.1 f;have:=e.2.2.2 p o;grind
 rw[aw h,amT h];refine⟨⟨KO e.1,?_,?_,?_⟩,bq⟩
 ·have j:jW l d=l:=by
   unfold jW;rw[nE];intro a f;simp only[amV];rintro rfl;exact h (e.keys.mem_iff.2 (eT.2 ⟨a,f,bq⟩))
  have:=KN (k:=d) (v:=g) e.1;rw[j] at this;refine List.Perm.trans ?_ this.symm;show((L++[(d,c,g)]).map λa=>(a.1,a.2.2)).Perm _;rw[kA];exact List.perm_append_comm.trans ((e.2.1).cons _)
 ·show((L++[(d,c,g)]).map λa=>a.2.1).Nodup;rw[kA,jR];refine⟨e.2.2.1,ac,λq m b s r=>?_⟩;obtain⟨a,f,rfl⟩:=eT.1 m;have:=e.2.2.2 a f;grind
 intro a f;rcases hl.1 f with f|f
 ·have:=e.2.2.2 a f;grind
 grind
theorem Py {α:Type} {h:Z}:∀{b:bp α} (a:α->Z) {f:X} {d:α},(b.map a).Nodup->b[f]?=Y d->a d=h->b.eraseIdx f=b.filter λi=>bw (a i≠h)
 |[],a,f,d,_,c,_=>by grind
 |x::b,a,0,d,e,c,g=>by simp only[rR,e9] at c;subst c;simp only[hA,kS] at e;rw[List.eraseIdx_cons_zero,nD,aw ae,nE.2];grind
 |x::b,a,f+1,d,e,c,g=>by simp only[xn] at c;simp only[hA,kS] at e;rw[List.eraseIdx_cons_succ,nD,ay,Py a e.2 c g];grind
def k9.del {α:Type} {L:bp (Z×X×α)} {l:bp (Z×α)} {c:X} (b:k9 L l c) (d:Z):k9 (L.filter λa=>bw (a.1≠d)) (jW l d) c:=by
 refine⟨aar b.1,?_,?_,λa e=>b.2.2.2 a (hV.1 e).1⟩
 ·have:=b.2.1.filter (λa=>bw (a.1≠d));rw[apS] at this;exact this
 exact b.2.2.1.sublist (vc.map _)
def aW.Rc (a:hO M w t b l c fk L):aW M w (.mp t) [.map (Y b)] (Y (l,c)) [b]:=⟨b,fk,L,bq,bq,a.p9,ow.2 a.h,a.n,a.e⟩
def aW.Rb {cs:amo} (a:aW M w (.mp t) cs (Y (l,c)) j):∃b fk L,cs=[.map (Y b)]/\j=[b]/\hO M w t b l c fk L:=by obtain⟨b,fk,L,d,e,f,g,h,i⟩:=a;exact⟨b,fk,L,d,e,f,ow.1 g,h,i⟩
def aW.aiv {a:eM} {cs:amo} (d:aW M w (.fd a t) cs (Y (l,c)) j):∃b fk L,cs=[.map (Y b)]/\j=[]/\M a b/\hO M w t b l c fk L:=by obtain⟨b,fk,L,e,f,g,m,h,i,k⟩:=d;exact⟨b,fk,L,e,f,m,g,ow.1 h,i,k⟩
def g7 (w:bF) (b:X) (fk:bW cp) (c:X):World:={w with heap:=w.heap.setIfInBounds b (.map fk c)}
theorem pt (a:w.heap[b]?=Y (.map fk c)):(g7 w b n h).heap[b]?=Y (.map n h):=by grind [Array.getElem?_eq_some_iff,g7]
theorem Cs (a:h≠b):(g7 w b n V).heap[h]?=w.heap[h]?:=by grind [Array.getElem?_setIfInBounds_ne,g7]
theorem TO:(g7 w b n h).heap.size=w.heap.size:=by simp[g7]
theorem agX {es':bW cp} {c':X} (d:w.heap[b]?=Y (.map fk c)) (a:ck):(g7 w b es' c').cell? a=w.cell? a:=by grind [aqY,Cs,pt,anR]
theorem agY {es':bW cp} {c':X} (d:w.heap[b]?=Y (.map fk c)) (a:ck):(g7 w b es' c').frozen? a=w.frozen? a:=by grind [aqZ,Cs,pt,ao5]
def G4 (a:h≠b):dm w (g7 w b n V) h:=.of_heap (Cs a)
theorem hO.update (f:hO M w t b l c fk L) {I:bH} {ce:cn} (G:P.underlying R=Y (.map a I)) (C:P.underlying a=Y (.int ce)) (d:Z) {m:t.den} (am:u.length=t.size) (bx:aW M w t u m []):∃s J,(ann R (.map (Y b)) (.int .i64 d) (c9 t u)).run P w=.ok () (g7 w b s (bif (gk l d).isSome then c else c+1))/\(∀{v:eM->X->Prop},(∀q d,M q d->v q d/\d≠b)->hO v (g7 w b s (bif (gk l d).isSome then c else c+1)) t b (kK l d m) (bif (gk l d).isSome then c else c+1) s J)/\lA w (g7 w b s (bif (gk l d).isSome then c else c+1)) b:=by
 have a3:∀{v:eM->X->Prop} {s:bW cp} {K:X},(∀q d,M q d->v q d/\d≠b)->∀{u:amo} {m:t.den},aW M w t u m []->aW v (g7 w b s K) t u m []:=
  λx _ _ bs=>bs.mono (λq d A=>⟨(x q d A).1,G4 (x q d A).2⟩) ac
 obtain⟨p,cs⟩:=f.p9.put d m;rcases f.find (P:=P) C d with⟨B,E,F⟩|⟨z,c2,dg,ci,B,E,F,U,co,V⟩
 ·rw[B] at p|-;have A:d∉L.map (·.1):=λcv=>ae;simp only[apT,bQ] at p|-;have ar:(wC L d m c).1=L++[(d,c,m)]:=(by simp_all [aw,wC]);rw[ar] at p;refine⟨fk.push ⟨.int .i64 d,c9 t u,c⟩,L++[(d,c,m)],?_,λx=>⟨p,pt f.h,by simp[f.n],λk g o=>?_⟩,?_⟩
  ·simp only[ann,b0,cd G,b4,run_getObj_map f.h,pq C,F];exact rz f.h
  ·rcases c6 k L.length with D|D
   ·rw[qy D] at o;obtain⟨S,O,Q,d3⟩:=f.e k g o;grind
   rw[qz D] at o;have ap:k-L.length=0:=ae;rw[ap] at o;simp only[rR,e9] at o;subst o;exact⟨u,am,by rw[Array.getElem?_push,ay (by rw[f.n];omega)],a3 x bx⟩
  intro T N y;rw[ow.2 f.h] at y;cases y;refine⟨_,_,ow.2 (pt f.h),Nat.le_succ _,λk r an ad=>?_⟩;grind
 rw[B] at p|-;have A:d∈L.map (·.1):=eT.2 ⟨_,qE E,bq⟩;simp only[ao6,bI] at p|-;have ar:(wC L d m c).1=L.map λg=>if g.1=d then(d,g.2.1,m) else g:=by simp_all [ay,wC]
 rw[ar] at p;have c1:∀(k:X) (g:Z×X×t.den),L[k]?=Y g->g.1=d->k=z:=λk g o r=>(by have a4:=f.p9.nd;have av:k<(L.map (·.1)).length:=ae;have:=ao7 av a4 (i:=k) (j:=z);grind);refine⟨fk.modify z λr=>{r with key:=.int .i64 d,val:=c9 t u},L.map λg=>if g.1=d then(d,g.2.1,m) else g,?_,λx=>⟨p,pt f.h,by simp[f.n],λk g o=>?_⟩,?_⟩
 ·have a0:(an7 (((fk[z]?).map (·.key)).getD (.int .i64 d)) (.int .i64 d)).run P w=.ok (.int .i64 d) w:=by
   rw[U];simp[an7,apU]
  simp only[ann,b0,cd G,b4,run_getObj_map f.h,pq C,V,a0];exact rz f.h
 ·rw[jv] at o;obtain⟨H,bl,rfl⟩:=fQ.1 o;by_cases r:H.1=d
  ·grind
  rw[aw r];obtain⟨S,O,Q,d3⟩:=f.e k H bl;grind
 intro T N y;rw[ow.2 f.h] at y;cases y;refine⟨_,_,ow.2 (pt f.h),bf _,λk r an ad=>?_⟩;grind
theorem hO.delete (d:hO M w t b l c fk L) {I:bH} {an:cn} (E:P.underlying R=Y (.map a I)) (u:P.underlying a=Y (.int an)) (f:Z) (ap:bH) (K:bH):∃k J,(apV #[R,K] ap #[.map (Y b),.int .i64 f]).run P w=.ok (.tuple #[]) (g7 w b k c)/\(∀{p:eM->X->Prop},(∀g f,M g f->p g f/\f≠b)->hO p (g7 w b k c) t b (jW l f) c k J)/\lA w (g7 w b k c) b:=by
 have a3:∀{p:eM->X->Prop} {k:bW cp} {N:X},(∀g f,M g f->p g f/\f≠b)->∀{z:amo} {H:t.den},aW M w t z H []->aW p (g7 w b k N) t z H []:=
  λr _ _ am=>am.mono (λg f G=>⟨(r g f G).1,G4 (r g f G).2⟩) ac
 rcases d.find (P:=P) u f with⟨T,s,C⟩|⟨o,bl,bs,av,T,s,C,D,a0,U⟩
 ·have ar:jW l f=l:=by
   unfold jW;rw[nE];intro j a4;simp only[amV];grind [QQ]
  refine⟨fk,L,?_,λr=>⟨by rw[ar];exact d.p9,pt d.h,d.n,λi j m=>?_⟩,?_⟩
  ·simp only[apV,b0,cd E,b4,run_getObj_map d.h,pq u,C,apW,rR,xn];rw[rz d.h];rfl
  ·obtain⟨A,x,y,d3⟩:=d.e i j m;grind
  intro S O q;rw[ow.2 d.h] at q;cases q;exact⟨_,_,ow.2 (pt d.h),bf _,λi B F _=>⟨i,B,F,bq,bq⟩⟩
 have Q:L.eraseIdx o=L.filter λj=>bw (j.1≠f):=Py (·.1) d.p9.nd s bq;refine⟨fk.eraseIdxIfInBounds o,L.eraseIdx o,?_,λr=>⟨by rw[Q];exact d.p9.del f,pt d.h,?_,λi j m=>?_⟩,?_⟩
 ·simp only[apV,b0,cd E,b4,run_getObj_map d.h,pq u,U,apW,rR,xn];rw[rz d.h];rfl
 ·have v:o<fk.size:=(s7.1 D).1;have V:o<L.length:=(iv.1 s).1;rw[aq5,anS v,Array.size_eraseIdx,List.length_eraseIdx,ay V,d.n]
 ·have v:o<fk.size:=(s7.1 D).1;rw[List.getElem?_eraseIdx] at m;rw[aq5,anS v];split at m
  ·rename_i ad;obtain⟨A,x,y,d3⟩:=d.e i j m;grind
  rename_i ad;obtain⟨A,x,y,d3⟩:=d.e (i+1) j m;grind
 intro S O q;rw[ow.2 d.h] at q;cases q;refine⟨_,_,ow.2 (pt d.h),bf _,λi B F _=>?_⟩;grind
end
end
section
section
variable {E:fP} {C:fg} {st:aR} {a:Act} {w:bF} {I:X->Prop} {rt:X->amo} {fp:X->amu} {o:bU} {Q:ao->bp (X×aI)->Prop}
def lP (tt:bp (bH×ak)) (b:bH):bv ak:=match ax tt b with|some (.mp a)=>Y a|some (.fd _ a)=>Y a|_=>br
theorem lP.ok {c:bH} {f:ak} (d:lP E.tt c=Y f):∃a b,E.P.underlying c=Y (.map a b)/\E.P.underlying a=Y (.int .i64)/\fD E.P f b:=by
 unfold lP at d;split at d
 ·rename_i k e;cases d;obtain⟨j,a,b,_,_,_,_,g,h,i⟩:=E.ok c _ e;grind
 ·rename_i l k e;cases d;obtain⟨j,a,b,_,_,_,_,g,h,i⟩:=E.ok c _ e;grind
 grind
def yR (tt:bp (bH×ak)) (d:bp (X×ak)) (e:bp (X×aI)) (a:X) (c:bH):iy:=
 match lP tt c,ax d a,ax e a with
 |some f,Y (.mp b),br=>bif bg f b then .ff (.ref a []) [(a,⟨.mp b,Y ([],0)⟩)] else .bad
 |_,_,_=>.bad
theorem aaO (f:cW C st a.tmps w I rt fp) (l:o.op=.makeMap R br) (c:(yR E.tt k st.h b R).K Q):Yields E C st a w I rt fp o Q:=by
 unfold yR at c;split at c
 case h_2=>exact c.elim
 rename_i m d p q g;cases e:bg m d with
 |false=>rw[e] at c;exact c.elim
 |true=>
 rw[e] at c;have i:(w.alloc (.map #[] 0)).heap[w.heap.size]?=Y (.map #[] 0):=(by show(w.heap.push _)[w.heap.size]?=_;grind);refine⟨.map (Y w.heap.size),w.alloc (.map #[] 0),I,λ_=>[.map (Y w.heap.size)],λ_=>[w.heap.size],.ref b [],[(b,⟨.mp d,Y ([],0)⟩)],?_,.alloc w _,λ_ c=>c,λ_ c=>.inl c,.one g (aW.Rc (hO.empty _ _ i)) ac (λn e=>?_),?_,c⟩
 ·simp[bP,l,Instr.makeMap,newObj,Sem.run]
 ·simp only[gI] at e;subst e;exact⟨bf _,ac,λc=>by have:=f.ib _ (.inl c);omega⟩
 have j:ax ([(b,(⟨.mp d,Y ([],0)⟩:aI))]++st.h) b=Y ⟨.mp d,Y ([],0)⟩:=(by rw[zR,eJ,ay bq]);refine .ref (t:=⟨.mp d,Y ([],0)⟩) (τ':=.mp d) (loc:=br) (cs:=[.map (Y w.heap.size)]) j ?_;have:fC [(b,(⟨.mp d,Y ([],0)⟩:aI))] (λ_=>[an8 (Y w.heap.size)]) rt b=[.map (Y w.heap.size)]:=(by simp[fC,eJ]);grind [aZ.here]
def F7 (a:ak) (c:bv (bp (Z×a.den)×X)) (d:a.den) (b:Z):bD->ao
 |true=>.fx [.val a ((gW c b).getD d),.val .bool (gW c b).isSome]
 |false=>.val a ((gW c b).getD d)
def wv (tt:bp (bH×ak)) (i:bp (X×aI)) (h:bH) (j b:ao) (e:bD):iy:=
 match lP tt h,b with
 |some g,.val (.int .i64) b=>match j with
  |.val (.fd k a) ba=>match m0 a with
   |some c=>bif bg g a then .ff (F7 a ba c b e) [] else .bad
   |none=>.bad
  |.ref id f=>match ax i id with
   |some d=>match fE d.1 f with
    |some (.mp a)=>match m0 a with
     |some c=>bif bg g a then .part (bv (bp (Z×a.den)×X)) (λba=>e2 d.1 d.2 f (.mp a) ba) (λba=>(F7 a ba c b e,[])) else .bad
     |none=>.bad
    |_=>.bad
   |none=>.bad
  |_=>.bad
 |_,_=>.bad
theorem QI {l k:bH} (s:E.P.underlying l=Y (.map R k)) (f:E.P.underlying R=Y (.int .i64)) (L:fD E.P d k) {e:bD} (O:o.op=.lookup l c g e) {n:Z} (N:a.eval g=.int .i64 n) {v:d.den} (S:m0 d=Y v) {m:bv (bp (Z×d.den)×X)} (i:(m=br/\a.eval c=.map br)\/∃p t q z y,m=Y (t,q)/\a.eval c=.map (Y p)/\hO (bi I C.B) w d p t q z y):∃u,(bP a.eval o).run E.P w=.ok (.value u) w/\∀A:bp (X×aI),c0 (bi I C.B) w A rt fp (F7 d m v n e) u:=by
 obtain⟨G,x,aB,U,V,bj⟩:=w9 L S;have F:(amN k).run E.P w=.ok x w:=(by simp[amN,am1,aB,U]);have T:∃cs,aW (bi I C.B) w d cs ((gW m n).getD v) []/\(ao8 l (a.eval c) (.int .i64 n) e).run E.P w=.ok (if e then .tuple #[c9 d cs,.bool (gW m n).isSome] else c9 d cs) w:=by
  rcases i with⟨rfl,i⟩|⟨p,t,q,z,y,rfl,i,r⟩
  ·refine⟨x.cells.toList,by grind [gW],?_⟩;rw[i];have M:(aoA R (.int .i64 n) []).run E.P w=.ok br w:=Mb f bq;simp only[ao8,b0,cd s,b4,cz,pq f,M,F];rw[<-V];cases e<;>rfl
  rw[i];rcases r.find (P:=E.P) f n with⟨b,_,J⟩|⟨av,a0,a3,H,b,_,am,an,ap,K⟩
  ·refine⟨x.cells.toList,by grind [gW],?_⟩;simp only[ao8,b0,cd s,b4,cz,run_getObj_map r.h,pq f,J,F];grind [apT,gW]
  refine⟨H,by grind [gW],?_⟩;simp only[ao8,b0,cd s,b4,cz,run_getObj_map r.h,pq f,K];grind [ao6,gW]
 obtain⟨cs,D,Q⟩:=T;refine⟨_,by simp only[bP,O,N,b0,Q];rfl,λA=>?_⟩;cases e with
 |false=>exact .val D
 |true=>
  refine .fx ac (λG ad u b j=>?_)
  match G with
  |0=>simp at b j;subst b;subst j;exact .val D
  |1=>simp at b j;subst b;subst j;exact .bool _
  |n+2=>grind
theorem aW.K0 {cs:amo} {b:bv (bp (Z×d.den)×X)} (f:aW e w (.mp d) cs b j):(b=br/\cs=[.map br]/\j=[])\/∃a g c i h,b=Y (g,c)/\cs=[.map (Y a)]/\j=[a]/\hO e w d a g c i h:=by
 cases b with
 |none=>exact .inl ⟨bq,f.2,f.1⟩
 |some k=>
  obtain⟨g,c⟩:=k;obtain⟨a,i,h,l,m,n⟩:=f.Rb;grind
theorem aW.UH {k:eM} {cs:amo} {a:bv (bp (Z×d.den)×X)} (i:aW e w (.fd k d) cs a j):(a=br/\cs=[.map br])\/∃b f c h g,a=Y (f,c)/\cs=[.map (Y b)]/\hO e w d b f c h g:=by
 cases a with
 |none=>exact .inl ⟨bq,i.2⟩
 |some l=>
  obtain⟨f,c⟩:=l;obtain⟨b,h,g,m,_,_,n⟩:=i.aiv;grind
theorem aal (s:cW C st a.tmps w I rt fp) {j:bO} {G:bD} (B:o.op=.lookup R c j G) (b:(wv E.tt st.h R (aX st.g c) (aX st.g j) G).K Q):Yields E C st a w I rt fp o Q:=by
 have f:=s.aX c;have t:=s.aX j;unfold wv at b;split at b
 case h_2=>exact b.elim
 rename_i M bs O N;obtain⟨av,a0,H,J,L⟩:=lP.ok O;rw[N] at t;generalize A:a.eval j=bl at t;cases t with|val V=>
 obtain⟨_,rfl⟩:=V;split at b
 ·rename_i ap z ba r;split at b
  case h_2=>exact b.elim
  rename_i an u;cases e:bg M z with
  |false=>rw[e] at b;exact b.elim
  |true=>
  rw[e] at b;rw[r] at f;generalize i:a.eval c=am at f;cases f with|val U=>
  obtain⟨ad,x,y⟩:=QI (rt:=rt) (fp:=fp) (I:=I) (C:=C) (E:=E) (w:=w) (a:=a) (m:=ba) H J (L.lay e) B A u (by
   rcases U.UH with⟨ar,d⟩|⟨l,v,n,q,k,ar,d,p⟩
   ·exact .inl ⟨ar,by rw[i,d];rfl⟩
   exact .inr ⟨l,v,n,q,k,ar,by rw[i,d];rfl,p⟩)
  exact .pure x (y _) b
 ·rename_i id bx r;split at b
  case h_2=>exact b.elim
  rename_i ce D;split at b
  case h_2=>exact b.elim
  rename_i z a4;split at b
  case h_2=>exact b.elim
  rename_i an u;cases e:bg M z with
  |false=>rw[e] at b;exact b.elim
  |true=>
  rw[e] at b;obtain⟨ba,P,b⟩:=b;rw[r] at f;generalize i:a.eval c=am at f;cases f with|ref F S=>
  rw[D] at F;cases F;obtain⟨rfl,a3,T,_⟩:=s.lM D P S;obtain⟨ad,x,y⟩:=QI (rt:=rt) (fp:=fp) (I:=I) (C:=C) (E:=E) (w:=w) (a:=a) (m:=ba) H J (L.lay e) B A u (by
   rcases T.K0 with⟨ar,d,_⟩|⟨l,v,n,q,k,ar,d,_,p⟩
   ·exact .inl ⟨ar,by rw[i,d];rfl⟩
   exact .inr ⟨l,v,n,q,k,ar,by rw[i,d];rfl,p⟩)
  exact .pure x (y _) b
 exact b.elim
def wz (tt:bp (bH×ak)) (e:bp (X×aI)) (d:bH) (f:ao):iy:=
 match lP tt d with
 |none=>.bad
 |some _=>match f with
  |.val (.fd _ a) ba=>.ff (.val (.int .i64) (yN (α:=a.den) ba)) []
  |.ref id c=>match ax e id with
   |some b=>match fE b.1 c with
    |some (.mp a)=>.part (bv (bp (Z×a.den)×X)) (λba=>e2 b.1 b.2 c (.mp a) ba) (λba=>(.val (.int .i64) (yN ba),[]))
    |_=>.bad
   |none=>.bad
  |_=>.bad
def Q8 {q r:bH} (l:E.P.underlying R=Y (.map q r)) (p:o.op=.call {callee:=.builtin .len,args:=#[c],argTypes:=#[R]}) {m:bv (bp (Z×d.den)×X)} (b:(m=br/\a.eval c=.map br)\/∃f e g i k,m=Y (e,g)/\a.eval c=.map (Y f)/\hO (bi I C.B) w d f e g i k):(bP a.eval o).run E.P w=.ok (.value (.int .i64 (yN m))) w:=by
 rcases b with⟨rfl,b⟩|⟨f,e,g,i,k,rfl,b,j⟩
 ·simp[bP,p,anf,invoke,anz,b,apM,cd l,goInt,yN]
 have s:i.size=e.length:=(by rw[j.n,j.p9.len]);simp only[bP,p,anf,invoke,anz,b0,cz,b4,ao9,hA,tg,b,apM,apW,rR,cd l,run_getObj_map j.h,goInt,yN,s]
theorem aaQ (r:cW C st a.tmps w I rt fp) (s:o.op=.call {callee:=.builtin .len,args:=#[c],argTypes:=#[R]}) (b:(wz E.tt st.h R (aX st.g c)).K Q):Yields E C st a w I rt fp o Q:=by
 have e:=r.aX c;unfold wz at b;split at b
 ·exact b.elim
 rename_i P x;obtain⟨G,H,v,N,O⟩:=lP.ok x;generalize f:a.eval c=S at e;split at b
 ·rename_i F D ba p;rw[p] at e;cases e with|val B=>
  refine .pure (Q8 (I:=I) (C:=C) (m:=ba) v s ?_) (.int _ _) b;rcases B.UH with⟨ar,d⟩|⟨j,q,k,n,i,ar,d,l⟩
  ·exact .inl ⟨ar,by rw[f,d];rfl⟩
  exact .inr ⟨j,q,k,n,i,ar,by rw[f,d];rfl,l⟩
 ·rename_i id M p;split at b
  case h_2=>exact b.elim
  rename_i T t;split at b
  case h_2=>exact b.elim
  rename_i D L;obtain⟨ba,y,b⟩:=b;rw[p] at e;cases e with|ref u z=>
  rw[t] at u;cases u;obtain⟨rfl,J,A,_⟩:=r.lM t y z;refine .pure (Q8 (I:=I) (C:=C) (m:=ba) v s ?_) (.int _ _) b;rcases A.K0 with⟨ar,d,_⟩|⟨j,q,k,n,i,ar,d,_,l⟩
  ·exact .inl ⟨ar,by rw[f,d];rfl⟩
  exact .inr ⟨j,q,k,n,i,ar,by rw[f,d];rfl,l⟩
 exact b.elim
end
end
section
section
variable {E:fP} {C:fg} {st:aR} {a:Act} {w:bF} {I:X->Prop} {rt:X->amo} {fp:X->amu} {o:bU} {Q:ao->bp (X×aI)->Prop}
def GF (b c d:ao):iy:=
 match b with
 |.val .bool b=>.part bD (λa=>b=a) (λa=>(match a with|true=>c|false=>d,[]))
 |_=>.bad
theorem aeC (f:cW C st a.tmps w I rt fp) {d e:bO} (m:o.op=.pick c d e) (b:(GF (aX st.g c) (aX st.g d) (aX st.g e)).K Q):Yields E C st a w I rt fp o Q:=by
 have h:=f.aX c;unfold GF at b;split at b
 case h_2=>exact b.elim
 rename_i i j;obtain⟨i,rfl,b⟩:=b;rw[j] at h;generalize n:a.eval c=l at h;cases h with|val k=>
 obtain⟨_,rfl⟩:=k;cases i
 ·exact .pure (v:=a.eval e) (by simp_all [bP,c9,asBool]) (f.aX e) b
 exact .pure (v:=a.eval d) (by simp_all [bP,c9,asBool]) (f.aX d) b
def MF (e:UnOp) (c:ao):iy:=
 match e,c with
 |.neg,.val (.int a) c=>.part Z (λb=>a.wrap (0-c)=b) (λb=>(.val (.int a) b,[]))
 |.xor,.val (.int a) c=>.part Z (λb=>a.wrap (cl a.bits (if a.signed then-1 else a.max)^^^cl a.bits c).toNat=b) (λb=>(.val (.int a) b,[]))
 |.not,.val .bool d=>.ff (.val .bool (!d)) []
 |_,_=>.bad
theorem ah8 (j:cW C st a.tmps w I rt fp) {i:UnOp} (p:o.op=.unOp i R c) (b:(MF i (aX st.g c)).K Q):Yields E C st a w I rt fp o Q:=by
 have d:=j.aX c;unfold MF at b;generalize q:a.eval c=m at d;split at b
 ·rename_i f k e;obtain⟨l,rfl,b⟩:=b;rw[e] at d;cases d with|val h=>
  obtain⟨_,rfl⟩:=h;exact .pure (v:=.int f _) (by simp_all [bP,c9,apX,Op.intArith]) (.int f _) b
 ·rename_i f k e;obtain⟨l,rfl,b⟩:=b;rw[e] at d;cases d with|val h=>
  obtain⟨_,rfl⟩:=h;exact .pure (v:=.int f _) (by simp_all [bP,c9,apX,Op.intBits]) (.int f _) b
 ·rename_i n e;rw[e] at d;cases d with|val h=>
  obtain⟨_,rfl⟩:=h;exact .pure (v:=.bool _) (by simp_all [bP,c9,apX]) (.bool _) b
 exact b.elim
def DC (tt:bp (bH×ak)) (e d:bH) (a:ao):iy:=
 match ax tt e,ax tt d,a with
 |some (.int _),Y (.int c),.val (.int _) a=>.part Z (λb=>c.wrap a=b) (λb=>(.val (.int c) b,[]))
 |_,_,_=>.bad
theorem Xr (k:cW C st a.tmps w I rt fp) {e:bH} (n:o.op=.convert e R c) (b:(DC E.tt e R (aX st.g c)).K Q):Yields E C st a w I rt fp o Q:=by
 have d:=k.aX c;unfold DC at b;split at b
 case h_2=>exact b.elim
 rename_i q f r s i j h;obtain⟨x,rfl,b⟩:=b;generalize p:a.eval c=m at d;rw[h] at d;cases d with|val l=>
 obtain⟨_,rfl⟩:=l;obtain⟨_,_,_,_,_,t⟩:=E.ok e _ i;obtain⟨_,_,_,_,_,u⟩:=E.ok R _ j;exact .pure (v:=.int f _) (by simp_all [cd,bP,c9,convert,Conv.intToInt]) (.int f _) b
def rG (c:ByteArray) (a:Z):amp:=if 0<=a then(c[a.toNat]?).map λb=>(b.toNat:Z) else br
def F3:ByteArray:=⟨#[0,1,2,2,3,3,3,3,4,4,4,4,4,4,4,4,5,5,5,5,5,5,5,5,5,5,5,5,5,5,5,5,6,6,6,6,6,6,6,6,6,6,6,6,6,6,6,6,6,6,6,6,6,6,6,6,6,6,6,6,6,6,6,6,7,7,7,7,7,7,7,7,7,7,7,7,7,7,7,7,7,7,7,7,7,7,7,7,7,7,7,7,7,7,7,7,7,7,7,7,7,7,7,7,7,7,7,7,7,7,7,7,7,7,7,7,7,7,7,7,7,7,7,7,7,7,7,7,8,8,8,8,8,8,8,8,8,8,8,8,8,8,8,8,8,8,8,8,8,8,8,8,8,8,8,8,8,8,8,8,8,8,8,8,8,8,8,8,8,8,8,8,8,8,8,8,8,8,8,8,8,8,8,8,8,8,8,8,8,8,8,8,8,8,8,8,8,8,8,8,8,8,8,8,8,8,8,8,8,8,8,8,8,8,8,8,8,8,8,8,8,8,8,8,8,8,8,8,8,8,8,8,8,8,8,8,8,8,8,8,8,8,8,8,8,8,8,8,8,8,8,8,8,8,8,8]⟩
def Hc (tt:bp (bH×ak)) (d:bH) (f e:ao):iy:=
 match ax tt d,f,e with
 |some .str,.eI (.string c),.val (.int _) b=>.part Z (λa=>rG c b=Y a) (λa=>(.val (.int .u8) a,[]))
 |some .str,.val .str c,.val (.int _) b=>.part Z (λa=>rG c b=Y a) (λa=>(.val (.int .u8) a,[]))
 |_,_,_=>.bad
theorem ahw (x:cW C st a.tmps w I rt fp) {k:bO} (G:o.op=.index R k c) (l:(Hc E.tt R (aX st.g k) (aX st.g c)).K Q):Yields E C st a w I rt fp o Q:=by
 have i:=x.aX k;have h:=x.aX c;have u:∀(f:ByteArray) (j:cn) (e b:Z),ax E.tt R=Y .str->a.eval k=.string f->a.eval c=.int j e->rG f e=Y b->Q (.val (.int .u8) b) []->Yields E C st a w I rt fp o Q:=by
  intro f j e b m q p d n;obtain⟨_,_,_,_,_,y⟩:=E.ok R _ m;refine .pure (v:=.int .u8 b) ?_ (.int .u8 b) n;unfold rG at d;split at d
  case isFalse=>cases d
  rename_i D;obtain⟨B,F,rfl⟩:=fQ.1 d;simp_all [cd,bP,Instr.index,anN]
 unfold Hc at l;split at l
 ·rename_i f j e m q p;obtain⟨b,d,n⟩:=l;rw[q] at i;rw[p] at h;generalize s:a.eval k=z at i;generalize r:a.eval c=y at h;cases i;cases h with|val t=>
  obtain⟨_,rfl⟩:=t;exact u f j e b m s r d n
 ·rename_i f j e m q p;obtain⟨b,d,n⟩:=l;rw[q] at i;rw[p] at h;generalize s:a.eval k=z at i;generalize r:a.eval c=y at h;cases i with|val A=>
  obtain⟨_,rfl⟩:=A;cases h with|val t=>
  obtain⟨_,rfl⟩:=t;exact u f j e b m s r d n
 exact l.elim
def Fx (d:ao) (c:X):iy:=
 match d with
 |.fx b=>match b[c]? with
  |some a=>.ff a []
  |none=>.bad
 |_=>.bad
theorem Yw (j:cW C st a.tmps w I rt fp) (q:o.op=.extract c b) (d:(Fx (aX st.g c) b).K Q):Yields E C st a w I rt fp o Q:=by
 have f:=j.aX c;unfold Fx at d;generalize r:a.eval c=n at f;split at d
 case h_2=>exact d.elim
 rename_i s i;split at d
 case h_2=>exact d.elim
 rename_i h l;rw[i] at f;cases f with|fx p k=>
 rename_i e;have m:b<e.size:=ae;have:e[b]?=Y e[b]:=CQ m;exact .pure (v:=e[b]) (by simp_all [bP,Instr.extract]) (k b h _ l this) d
def yS (c:bD) (a:ao):bp ao->iy
 |[]=>.ff a []
 |y::d=>match a,y with
  |.val (.int b) a,.val (.int e) y=>if b=e then(match c with|true=>yS c (.val (.int b) (if y>a then y else a)) d|false=>yS c (.val (.int b) (if y<a then y else a)) d) else .bad
  |_,_=>.bad
def Ge (j:cW C st a.tmps w I rt fp) (m:bD):∀(e:bp bO) (i:ao) (f:Value),c0 (bi I C.B) w st.h rt fp i f->(yS m i (e.map (aX st.g))).K Q->∃d c,((e.map a.eval).foldlM (match m with|true=>Builtin.max2|false=>Builtin.min2) f).run E.P w=.ok d w/\c0 (bi I C.B) w st.h rt fp c d/\Q c []
 |[],i,f,k,b=>⟨f,i,bq,k,b⟩
 |y::e,i,f,k,b=>by
  have l:=j.aX y;simp only[hA,yS] at b;generalize p:a.eval y=A at l;split at b
  case h_2=>exact b.elim
  rename_i q x v z r;split at b
  case isFalse=>exact b.elim
  rename_i s;subst s;rw[r] at l;cases k with|val t=>cases l with|val u=>
  obtain⟨_,rfl⟩:=t;obtain⟨_,rfl⟩:=u;cases m
  ·obtain⟨d,c,aB,n,o⟩:=Ge j bu e _ _ (.int q _) b;refine⟨d,c,?_,n,o⟩;simp only[hA,aq6,p,b0];exact aB
  obtain⟨d,c,aB,n,o⟩:=Ge j bt e _ _ (.int q _) b;refine⟨d,c,?_,n,o⟩;simp only[hA,aq6,p,b0];exact aB
def Kj:ao->bD
 |.val _ _|.eI _|.eG _ _=>bt
 |_=>bu
def hp (tt:bp (bH×ak)) (i:bp (X×ak)) (d:bp (X×aI)) (b:bO->ao) (g:X) (h:Op):iy:=
 match h with
 |.move a=>.ff (b a) []
 |.assign a=>bif Kj (b a) then .ff (b a) [] else .bad
 |.pick f a n=>GF (b f) (b a) (b n)
 |.alloc c=>xG tt i d g c
 |.box c a=>Am tt d g c (b a)
 |.build c l=>Al tt b c l.toList
 |.buildSlice c e l=>xP tt i d b g c e l.toList
 |.load c a=>wu tt d c (b a)
 |.nilCheck a=>wD d (b a)
 |.binOp h c a n _=>match b a,b n with
  |.val .bool w,.val .bool x=>match ax tt c with
   |some .bool=>Ip h (.val .bool w) (.val .bool x)
   |_=>.bad
  |.val (.int k) u,.val (.int r) e=>mH h k u r e
  |_,_=>.bad
 |.unOp h _ a=>MF h (b a)
 |.convert y g a=>DC tt y g (b a)
 |.makeSlice c s f=>wx tt i d g c (b s) (b f)
 |.slice c a t q br=>wX tt d c (b a) (t.map b) (q.map b)
 |.fieldAddr c a e=>we tt d c (b a) e
 |.field c a e=>yq tt d c (b a) e
 |.indexAddr c a j=>wk tt d c (b a) (b j)
 |.index c a j=>Hc tt c (b a) (b j)
 |.extract a e=>Fx (b a) e
 |.call f=>match f.callee,f.args.toList,f.argTypes.toList with
  |.builtin .len,[a],[c]=>match hf tt c with
   |some _=>wq tt d c (b a)
   |none=>wz tt d c (b a)
  |.builtin .max,a::m,_=>yS bt (b a) (m.map b)
  |.builtin .min,a::m,_=>yS bu (b a) (m.map b)
  |_,_,_=>.bad
 |.makeMap c br=>yR tt i d g c
 |.lookup c a k v=>wv tt d c (b a) (b k) v
 |.makeFunc (.func o) p cs=>bif p.isEmpty then .ff (.eG o (cs.toList.map b)) [] else .bad
 |_=>.bad
theorem Ym (f:cW C st a.tmps w I rt fp) (c:(hp E.tt k st.h (aX st.g) b o.op).K Q):Yields E C st a w I rt fp o Q:=by
 unfold hp at c;split at c
 ·rename_i d e;exact .pure (v:=a.eval d) (by simp[bP,e]) (f.aX d) c
 ·rename_i d e;cases z:Kj (aX st.g d) with
  |false=>rw[z] at c;exact c.elim
  |true=>rw[z] at c;exact .pure (v:=a.eval d) (by simp[bP,e]) (f.aX d) c
 ·grind [aeC]
 ·grind [V7]
 ·grind [WD]
 ·grind [WA]
 ·grind [WH]
 ·grind [aai]
 ·grind [aa4]
 ·rename_i ad l d r am e;split at c
  ·rename_i J L s t;split at c
   ·rename_i H;refine N1 f e (λ_ _ _ _=>?_) ae;exact(E.ok l _ H).choose_spec.2.2.2.2
   exact c.elim
  ·rename_i s t;refine N1 f e (λJ L _ S=>?_) (by rw[s,t];exact c);grind
  exact c.elim
 ·grind [ah8]
 ·grind [Xr]
 ·grind [aax]
 ·grind [ahc]
 ·grind [YM]
 ·grind [YO]
 ·grind [Zu]
 ·grind [ahw]
 ·grind [Yw]
 ·rename_i F e;obtain⟨O,m,B⟩:=F;simp only at c;split at c
  ·rename_i d l ar P;have j:m=#[d]:=ae;have R:B=#[l]:=ae;grind [aaQ,aaa]
  ·rename_i d i ar;have j:m=(d::i).toArray:=ae;obtain⟨q,D,aB,n,p⟩:=Ge (E:=E) f bt i _ _ (f.aX d) c;refine .pure (v:=q) ?_ n p;simp only[bP,e,anf,invoke,anz,b0,cz,b4,j,Builtin.max_];simp_all
  ·rename_i d i ar;have j:m=(d::i).toArray:=ae;obtain⟨q,D,aB,n,p⟩:=Ge (E:=E) f bu i _ _ (f.aX d) c;refine .pure (v:=q) ?_ n p;simp only[bP,e,anf,invoke,anz,b0,cz,b4,j,Builtin.min_];simp_all
  exact c.elim
 ·grind [aaO]
 ·grind [aal]
 ·rename_i G u cs e;cases A:u.isEmpty with
  |false=>rw[A] at c;exact c.elim
  |true=>
   rw[A] at c;obtain rfl:u=#[]:=ae;refine .pure (v:=.func (.func G) #[] (cs.map a.eval)) (by simp[bP,e,Instr.makeFunc]) (.eG ac (λV d N x y=>?_)) c;rw[jv] at x;rw[Array.getElem?_map] at y;obtain⟨r,T,rfl⟩:=fQ.1 x;obtain⟨M,U,rfl⟩:=fQ.1 y;obtain rfl:r=M:=ae;exact f.aX r
 exact c.elim
end
end
def e6 (b:X) (a:amu):bD:=a.any λc=>bL c b
theorem hH:e6 b j=bt↔b∈j:=by grind [an9,anl,aq7,e6]
def ao.fF (a:amu) (b:ao):bD:=b.ids.any λc=>e6 c a
def wW:bp a6->bv (bp a6)
 |.unst::a=>(wW a).map λb=>.unst::b
 |.fst::_=>Y [.snd]
 |.snd::_=>Y [.fst]
 |_=>br
def sT:bp a6->bp a6->bv (bp a6)
 |p,[]=>wW p
 |.idx _::p,.idx _::a|.deref::p,.deref::a|.unst::p,.unst::a|.fst::p,.fst::a|.snd::p,.snd::a=>sT p a
 |_,_=>br
def Ko (a b:bp a6):bD:=hG a b||(sT a b).isSome
def TW:∀{p b:bp a6},wW p=Y b->hG p b=bt
 |.unst::p,b,a=>by obtain⟨d,c,rfl⟩:=fQ.1 a;exact TW (p:=p) c
 |.fst::_,_,a=>by cases a;rfl
 |.snd::_,_,a=>by cases a;rfl
 |[],_,a|.idx _::_,_,a|.deref::_,_,a=>by cases a
def TV:∀{q p b:bp a6},sT p q=Y b->hG p (q++b)=bt
 |[],p,b,a=>by have c:wW p=Y b:=(by cases p<;>exact a);exact TW c
 |s::q,p,b,a=>by
  cases p with
  |nil=>cases s<;>cases a
  |cons d p=>cases s<;>cases d<;>first|(cases a;done)|exact TV (q:=q) (p:=p) a
def TX:∀{p e:bp a6} {τ g:ak},fE τ p=Y g->wW p=Y e->∃(n:ak) (l:X),∀(h:bF) (c:Loc) (cs:amo),∃j,aZ h τ c cs e n (c.map λd=>(d.1,d.2+l)) j
 |.unst::p,e,τ,g,b,a=>by
  obtain⟨o,k,rfl⟩:=fQ.1 a;cases τ with
  |st m=>exact TX (p:=p) (τ:=m) b k
  |_=>cases b
 |.fst::p,e,τ,g,b,a=>by
  cases a;cases τ with
  |pr f i=>exact⟨i,f.size,λh c cs=>⟨_,aZ.here⟩⟩
  |_=>cases b
 |.snd::p,e,τ,g,b,a=>by
  cases a;cases τ with
  |pr f i=>
   refine⟨f,0,λh c cs=>⟨cs.take f.size,?_⟩⟩;have:(c.map λd=>(d.1,d.2+0))=c:=ag;rw[this];exact aZ.here
  |_=>cases b
 |[],_,_,_,_,a|.idx _::_,_,_,_,_,a|.deref::_,_,_,_,_,a=>by cases a
theorem zn {m:bF}:∀{q p d:bp a6} {e f:ak} {i:Loc} {cs:amo} {g:ak} {j:Loc} {h:amo},fE e p=Y f->sT p q=Y d->aZ m e i cs q g j h->∃k,fE g k=Y f/\wW k=Y d
 |[],p,d,e,f,i,cs,g,j,h,c,b,a=>by obtain⟨rfl,_,_⟩:=aZ.gK.1 a;have n:wW p=Y d:=(by cases p<;>exact b);grind
 |s::q,p,d,e,f,i,cs,g,j,h,c,b,a=>by
  cases p with
  |nil=>cases s<;>cases b
  |cons l p=>
   cases e<;>cases s<;>simp only[aZ] at a<;>cases l<;>first|(cases b;done)|skip
   case osl.idx.idx=>obtain⟨_,_,_,_,_,_,_,_,_,a⟩:=a;exact zn (q:=q) (p:=p) c b a
   case optr.deref.deref=>obtain⟨_,_,_,_,_,_,a⟩:=a;exact zn (q:=q) (p:=p) c b a
   case st.unst.unst=>exact zn (q:=q) (p:=p) c b a
   case pr.fst.fst=>exact zn (q:=q) (p:=p) c b a
   case pr.snd.snd=>exact zn (q:=q) (p:=p) c b a
def aZ.split {t:bF}:∀{q i:bp a6} {d j:ak} {f h:Loc} {cs g:amo},aZ t d f cs (q++i) j h g->∃e c b,aZ t d f cs q e c b/\aZ t e c b i j h g
 |[],i,d,j,f,h,cs,g,a=>⟨d,f,cs,aZ.here,a⟩
 |s::q,i,d,j,f,h,cs,g,a=>by
  rw[kR] at a;cases d<;>cases s<;>simp only[aZ] at a
  case osl.idx=>
   obtain⟨k,r,w,u,l,ar,m,n,v,a⟩:=a;obtain⟨e,c,b,o,p⟩:=aZ.split (q:=q) a;exact⟨e,c,b,⟨k,r,w,u,l,ar,m,n,v,o⟩,p⟩
  case optr.deref=>
   obtain⟨k,r,l,ar,m,n,a⟩:=a;obtain⟨e,c,b,o,p⟩:=aZ.split (q:=q) a;exact⟨e,c,b,⟨k,r,l,ar,m,n,o⟩,p⟩
  case st.unst=>exact aZ.split (q:=q) a
  case pr.fst=>exact aZ.split (q:=q) a
  case pr.snd=>exact aZ.split (q:=q) a
theorem aZ.upper {A:ak} {cs:amo} {c z:bp a6} (y:fE d c=Y A) (g:sT c m=Y z) (a:aZ f d br cs m q (Y (b,h)) u) (x:∀(m:bp a6) (q:ak) (j:Loc) (u:amo),hG c m=bt->aZ f d br cs m q j u->aZ l d br cs m q j u):∃n,aZ l d br cs m q (Y (b,h)) n:=by
 obtain⟨E,p,r⟩:=zn y g a;obtain⟨H,D,e⟩:=TX p r;obtain⟨B,s⟩:=e f (Y (b,h)) u;obtain⟨G,i,k,t,v⟩:=aZ.split (x _ _ _ _ (TV g) (a.append s));have ar:=t.ty;rw[a.ty] at ar;obtain rfl:=gn ar;obtain⟨C,w⟩:=e l i k;obtain⟨_,o,_⟩:=v.lj w;cases i with
 |none=>cases o
 |some F=>
  grind
def lQ (c:bp (X×bp a6)):ao->bD
 |.ref id []=>c.any λa=>bL a.1 id
 |.ref id b=>c.any λa=>bL a.1 id&&hG a.2 b
 |.addr id b=>c.any λa=>bL a.1 id&&Ko a.2 b
 |.view id b _ _=>c.any λa=>bL a.1 id&&hG a.2 b
 |_=>bu
def k3 (c:amu) (b:bp (X×bp a6)):ao->bD
 |.eG _ f=>f.all λa=>!(a.fF c)||lQ b a
 |.hY a=>lQ b a
 |.app id h _ _ g=>(g.all λe=>!(e6 e c))&&b.any λd=>bL d.1 id&&lG d.2 h
 |a=>lQ b a
def fv (b:amu) (c:bp (X×bp a6)) (a:ao):ao:=bif a.fF b&&!(k3 b c a) then .dead else a
def fU (b:amu) (c:bp (X×bp a6)):ao->ao
 |.fx d=>.fx (d.map (fv b c))
 |a=>fv b c a
def kill (b:amu) (d:bp (X×bp a6)) (c:bp (X×ao)):bp (X×ao):=c.map λa=>(a.1,fU b d a.2)
def del (a:amu) (b:bp (X×aI)):bp (X×aI):=b.filter λc=>!(e6 c.1 a)
theorem FY (a:bp a6):hG [] a=bu:=by grind [hG,ot]
def yE (b:amu):bp (X×bp a6):=b.map λa=>(a,[])
theorem q8 (c:amu) (e:bp (X×bp a6)):∀(d:bp (X×ao)) (b:X),gt (kill c e d) b=fU c e (gt d b)
 |[],b=>by simp[kill,gt,ax,fU,fv,ao.fF,ao.ids]
 |(f,a)::d,b=>by
  show gt ((f,fU c e a)::kill c e d) b=_;rw[jC,jC];split
  ·rfl
  exact q8 c e d b
theorem nO (a:amu):∀(c:bp (X×aI)) (b:X),ax (del a c) b=if b∈a then br else ax c b
 |[],b=>by simp[del,ax]
 |(d,t)::c,b=>by
  have f:=nO a c b;simp only[del] at f|-;rw[nD];cases e:e6 d a with
  |true=>
   have:d∈a:=hH.1 e;simp only[iI,Bool.false_eq_true,if_false];grind [eJ]
  |false=>
   have:d∉a:=λc=>(by grind [hH]);simp only[oK,cq];grind [eJ]
theorem MH (a:T.fF j=bu):∀id∈T.ids,id∉j:=λid c b=>by grind [aq7,hH,ao.fF]
structure ob (C:fg) (st:aR) (w w':bF) (I I':X->Prop) (rt:X->amo) (fp:X->amu) (S:amu) (Qp:bp (X×bp a6)) (new:bp (X×aI)) (rtn:X->amo) (fpn:X->amu):Prop where
 size:w.heap.size<=w'.heap.size
 os:w'.os=w.os
 tape:w'.tape=w.tape
 output:w'.output=w.output
 heap:∀b,b<w.heap.size->(∀id∈S,∀t,ax st.h id=Y t->b∉fp id)->w'.heap[b]?=w.heap[b]?
 evo:∀b,b<w.heap.size->lA w w' b
 i:∀b,I b->I' b
 i2:∀b,I' b->I b\/(b<w'.heap.size/\(w.heap.size<=b\/∃id∈S,∃t,ax st.h id=Y t/\b∈fp id))
 tree:∀id t,ax new id=Y t->(id∈S\/ax st.h id=br)/\aW (bi I' C.B) w' t.1 (rtn id) t.2 (fpn id)/\(fpn id).Nodup/\∀b∈fpn id,¬I' b/\b<w'.heap.size/\(w.heap.size<=b\/∃P7∈S,∃t',ax st.h P7=Y t'/\b∈fp P7)
 dis:∀i j t u,ax new i=Y t->ax new j=Y u->i≠j->∀b∈fpn i,b∉fpn j
 keep:∀e∈Qp,∀t,ax st.h e.1=Y t->∃t',ax new e.1=Y t'/\t'.1=t.1/\rtn e.1=rt e.1/\(∃aiU,fE t.1 e.2=Y aiU)/\∀(q:bp a6) (UX:ak) (QP:Loc) (OH:amo),hG e.2 q=bt->aZ w t.1 br (rt e.1) q UX QP OH->aZ w' t.1 br (rt e.1) q UX QP OH
 app:∀e∈Qp,∀t,ax st.h e.1=Y t->∀(q:bp a6) (τ:ak) (xs:bp τ.den) (loc:Loc) (vA:amo) (f1:amu),lG e.2 q=bt->τ.lr=bt->aZ w t.1 br (rt e.1) q (.osl τ) loc vA->e2 t.1 t.2 q (.osl τ) xs->aW (bi I C.B) w (.osl τ) vA xs f1->∃t',ax new e.1=Y t'/\e2 t'.1 t'.2 q (.osl τ) xs/\∀b∈f1,b∈fpn e.1/\dm w w' b
theorem cW.eK {M:fg} {w':bF} {an I':X->Prop} {rtn:X->amo} {fpn:X->amu} {S:amu} {keep:bp (X×bp a6)} {new:bp (X×aI)} (e:cW M z N f an o p) (k:ob M z f w' an I' o p S keep new rtn fpn):cW M ⟨kill S keep z.g,new++del S z.h⟩ N w' I' (fC new rtn o) (fC new fpn p):=by
 have T:∀av a,bi an M.B av a->bi I' M.B av a/\dm f w' a:=λav a b=>by
  refine⟨?_,.of_heap (k.heap a (e.ib a (nP b)) (λid _ c j fn=>e.notM j a fn av b))⟩;cases av
  ·exact k.i a b
  exact b.imp (k.i a) id
 have ci:∀id c,ax (new++del S z.h) id=Y c->(ax new id=Y c/\fC new rtn o id=rtn id/\fC new fpn p id=fpn id)\/(ax new id=br/\id∉S/\ax z.h id=Y c/\fC new rtn o id=o id/\fC new fpn p id=p id):=λid c j=>by
  rw[lp,nO] at j;cases I:ax new id with
  |none=>
   rw[I] at j;simp only[Option.none_or] at j;split at j
   ·cases j
   rename_i C;exact .inr ⟨bq,C,j,by simp[fC,I],by simp[fC,I]⟩
  |some k=>grind [fC]
 have dg:∀id c,ax z.h id=Y c->id∉S->∀a∈p id,dm f w' a:=λid c j C a b=>.of_heap (k.heap a ((e.tree id c j).2.2 a b).2.2.1 (λH ap q G y=>
  e.dis id H c q j G (λd=>C ae) a b y))
 have em:∀id c,ax z.h id=Y c->id∉S->∀a∈p id,¬I' a:=λid c j C a b J=>by
  have s:=(e.tree id c j).2.2 a b;rcases k.i2 a J with J|⟨_,J|⟨H,ap,q,G,y⟩⟩
  ·grind
  ·omega
  exact e.dis id H c q j G (λd=>C ae) a b y
 refine{n:=e.n,i0:=λa b=>k.i a (e.i0 a b),i1:=?_,ib:=?_,tree:=?_,dis:=?_,tmp:=?_,frame:=?_,evo:=λa b=>(e.evo a b).trans (k.evo a (jS b e.size)),size:=eE e.size k.size,os:=k.os.trans e.os,tape:=k.tape.trans e.tape,output:=k.output.trans e.output,pin:=e.pin}
 ·intro a b;rcases k.i2 a b with b|⟨_,b|⟨H,ap,q,G,y⟩⟩
  ·exact e.i1 a b
  ·exact .inr (.inl (eE e.size b))
  exact .inr ((e.tree H q G).2.2 a y).2.2.2
 ·intro a b;rcases b with b|b
  ·rcases k.i2 a b with b|⟨b,_⟩
   ·exact jS (e.ib a (.inl b)) k.size
   omega
  exact jS (e.ib a (.inr b)) k.size
 ·intro id c j;rcases ci id c j with⟨r,l,v⟩|⟨d9,C,r,l,v⟩
  ·obtain⟨_,aB,x,A⟩:=k.tree id c r;rw[l,v];refine⟨aB,x,λa b=>?_⟩;obtain⟨a0,a3,am⟩:=A a b;rcases am with am|⟨H,ap,q,G,y⟩
   ·exact⟨a0,λek=>by have:=e.ib a (.inr ek);omega,a3,.inl (eE e.size am)⟩
   have s:=(e.tree H q G).2.2 a y;grind
  obtain⟨aB,x,A⟩:=e.tree id c r;rw[l,v];refine⟨aB.mono T (dg id c r C),x,λa b=>?_⟩;obtain⟨a0,a3,am,aY⟩:=A a b;exact⟨em id c r C a b,a3,jS am k.size,aY⟩
 ·intro m U c L J fr ds a b;rcases ci m c J with⟨r,_,v⟩|⟨d9,C,r,_,v⟩<;>rcases ci U L fr with⟨V,_,d5⟩|⟨gf,FX,V,_,d5⟩<;>rw[v] at b<;>rw[d5]
  ·exact k.dis m U c L r V ds a b
  ·intro y;rcases((k.tree m c r).2.2.2 a b).2.2 with s|⟨H,ap,q,G,ce⟩
   ·have:=((e.tree U L V).2.2 a y).2.2.1;omega
   exact e.dis U H L q V G (λd=>FX ae) a y ce
  ·intro y;rcases((k.tree U L V).2.2.2 a y).2.2 with s|⟨H,ap,q,G,ce⟩
   ·have:=((e.tree m c r).2.2 a b).2.2.1;omega
   exact e.dis m H c q r G (λd=>C ae) a b ce
  exact e.dis m U c L r V ds a b
 ·intro a4;show c0 _ _ _ _ _ (gt (kill S keep z.g) a4) _;rw[q8];have w:=e.tmp a4;generalize gt z.g a4=u at w;generalize N.getD a4 bY=P at w;suffices d8:∀(u:ao) (P:Value),c0 (bi an M.B) f z.h o p u P->c0 (bi I' M.B) w' (new++del S z.h) (fC new rtn o) (fC new fpn p) (fv S keep u) P by
   cases u with
   |fx f0=>
    cases w with|fx d0 I=>
    refine .fx ae (λm R L r l=>?_);grind
   |_=>exact d8 _ _ w
  clear w;have bs:∀(u:ao) (P:Value),c0 (bi an M.B) f z.h o p u P->u.fF S=bu\/lQ keep u=bt->c0 (bi I' M.B) w' (new++del S z.h) (fC new rtn o) (fC new fpn p) u P:=by
   intro u P w fz;cases d4:u.fF S with
   |false=>
    refine w.uB T (λid co c j=>?_);have C:=MH d4 id co;have ft:ax new id=br:=by
     cases I:ax new id with
     |none=>rfl
     |some c1=>
      rcases(k.tree id c1 I).1 with s|s
      ·grind
      grind
    refine⟨by simp_all [lp,nO,aw],by grind [fC],by grind [fC],(e.tree id c j).1,dg id c j C⟩
   |true=>
    have K:lQ keep u=bt:=fz.resolve_left ae;have bl:∀(id:X) (c:aI),ax z.h id=Y c->∀d∈keep,d.1=id->∃q,ax (new++del S z.h) id=Y q/\q.1=c.1/\fC new rtn o id=o id/\(∃f7,fE c.1 d.2=Y f7)/\
     ∀(s:bp a6) (d7:ak) (d6:Loc) (bx:amo),hG d.2 s=bt->aZ f c.1 br (o id) s d7 d6 bx->aZ w' c.1 br (o id) s d7 d6 bx:=by
     intro id c j d D co;subst co;obtain⟨q,aB,x,A,ad,bj⟩:=k.keep d D _ j;grind [lp]
    have c2:∀(id:X) (s:bp a6),(keep.any λd=>bL d.1 id&&hG d.2 s)=bt->∃d∈keep,d.1=id/\hG d.2 s=bt:=ag;cases u with
    |ref id Q=>
     cases Q with
     |nil=>
      obtain⟨d,D,l⟩:=qt.1 (show(keep.any λd=>bL d.1 id)=bt from K);have l:=fJ l;cases w with|ref j E=>
      obtain⟨rfl,rfl,rfl⟩:=aZ.gK.1 E;obtain⟨q,aB,x,A,_⟩:=bl id _ j d D l;rw[<-x];refine .ref (loc:=br) aB ?_;grind [aZ.here]
     |cons f5 Q=>
      obtain⟨d,D,l,v⟩:=c2 id (f5::Q) K;cases w with|ref j E=>
      obtain⟨q,aB,x,A,ad,bj⟩:=bl id _ j d D l;have F:=bj _ _ _ _ v E;rw[<-A,<-x] at F;exact .ref aB F
    |addr id Q=>
     obtain⟨d,D,l⟩:=qt.1 (show(keep.any λd=>bL d.1 id&&Ko d.2 Q)=bt from K);simp only[cJ] at l;obtain⟨l,v⟩:=l;have l:=fJ l;cases w with|addr j E=>
     obtain⟨q,aB,x,A,ad,bj⟩:=bl id _ j d D l;rcases CS.1 v with v|v
     ·have F:=bj _ _ _ _ v E;rw[<-A,<-x] at F;exact .addr aB F
     obtain⟨gl,O⟩:=HO.1 v;obtain⟨_,ad⟩:=ad;obtain⟨bx,F⟩:=aZ.upper ad O E bj;rw[<-A,<-x] at F;exact .addr aB F
    |view id Q gi J=>
     obtain⟨d,D,l,v⟩:=c2 id Q K;cases w with|mZ=>(exact .mZ _ _)|view j E f1 f2 f3=>
     obtain⟨q,aB,x,A,ad,bj⟩:=bl id _ j d D l;have F:=bj _ _ _ _ v E;rw[<-A,<-x] at F;exact .view aB F f1 f2 f3
    |_=>cases K
  intro u P w;unfold fv;cases d4:u.fF S with
  |false=>grind
  |true=>
   cases K:k3 S keep u with
   |false=>simp only[oK,Bool.and_self,bI];exact .dead _
   |true=>
    simp only[iI,Bool.and_false,bQ];cases u with
    |eG f8 f0=>
     cases w with|eG d0 I=>
     refine .eG d0 (λm R L r l=>bs R L (I m R L r l) ?_);have:=hk.1 K R (qE r);grind
    |hY R=>
     cases w with|hY b ex cs eq=>
     exact .hY (T _ _ b).1 (by rw[((T _ _ b).2.1 0).1];exact ex) cs (bs R _ eq (.inr K))
    |app id s f6 hc cv=>
     cases w with|app j d3 E fp r f9 l fT gc fs=>
     have O:((cv.all λm=>!(e6 m S))&&keep.any λd=>bL d.1 id&&lG d.2 s)=bt:=K;rw[cJ] at O;obtain⟨cs,O⟩:=O;have cs:∀m∈cv,m∉S:=λm J d1=>(by grind [hH,anK]);obtain⟨d,D,O⟩:=qt.1 O;simp only[cJ] at O;obtain⟨fl,dl⟩:=O;obtain rfl:=fJ fl;obtain⟨q,aB,x,A⟩:=k.app d D _ j s f6 _ _ _ _ dl d3 E fp r;obtain⟨go,a0,a3,am,_,f4⟩:=k.keep d D _ j;rw[aB] at a0;obtain rfl:=gn a0;have ft:∀m∈cv,ax new m=br:=λm J=>by
      cases I:ax new m with
      |none=>rfl
      |some c1=>
       obtain⟨_,gs,ge⟩:=fT m J;rcases(k.tree m c1 I).1 with s|s
       ·grind
       grind
     have d1:fC new rtn o d.1=o d.1:=(by grind [fC]);have d2:=f4 s _ _ _ (Js dl) E;rw[<-a3,<-d1] at d2;refine .app (t:=q) (by grind [lp]) d3 d2 x (r.mono T (λa b=>(A a b).2)) (λa b=>by grind [fC]) (l.mono T (λa b=>?_)) (λm J=>?_) (λa b=>?_) fs
     ·grind
     ·simp_all [lp,nO,aw]
     grind [fC]
    |_=>exact bs _ P w (.inr K)
 intro a b el;rw[k.heap a (jS b e.size)]
 ·exact e.frame a b el
 intro id _ c j y;have:=((e.tree id c j).2.2 a y).2.2.2;grind
section
def k8 (k:eM->X->Prop) (i:bF) (a:ak) (ad:bv ck) (d:bp a.den) (g:ey):Prop:=
 g.length=d.length/\(d=[]\/∃e h,ad=Y ⟨e,h,br⟩/\∀(c:X) (j:a.den) (f:amu),d[c]?=Y j->g[c]?=Y f->∃b,b.length=a.size/\fG i e (h+c*a.size) b/\aW k i a b j f)
theorem k8.bc {i:eM} {ad:bv ck} {a:bp d.den} (c:aW e f (.bc i d) [.slice ad b h] a []):b=a.length/\k8 e f d ad a (bM a.length []):=by obtain⟨_,j,k,g,_,_,c⟩:=c;simp only[ij,amE,cf] at g;obtain⟨rfl,rfl,rfl⟩:=g;refine⟨bq,ac,c.imp id ?_⟩;grind
theorem k8.osl {ad:bv ck} {l:bp d.den} (g:aW e f (.osl d) [.slice ad h b] l j):h=l.length/\h<=b/\∃i,k8 e f d ad l i/\(∀k∈i.flatten,k∈j)/\(j.Nodup->i.flatten.Nodup)/\((ad=br/\b=0/\j=[])\/∃a c,ad=Y ⟨a,c,br⟩/\j=a::i.flatten/\jf f a c (c+b*d.size)):=by
 obtain⟨r,k,m,g⟩:=g;simp only[ij,amE,cf] at m;obtain⟨rfl,rfl,rfl⟩:=m;rcases g with⟨rfl,rfl,rfl,rfl⟩|⟨a,c,n,rfl,rfl,aB,p,q,bj⟩
 ·exact⟨bq,bf _,[],⟨bq,.inl bq⟩,ac,ac,.inl ⟨bq,bq,bq⟩⟩
 refine⟨bq,p,n,⟨aB,.inr ⟨a,c,bq,bj⟩⟩,λk o=>gH _ o,λg=>(kS.1 g).2,.inr ⟨a,c,bq,bq,q⟩⟩
theorem k8.cells {ad:bv ck} {b:bp d.den} {q:ey} (j:k8 e f d ad b q) (t:0<d.size):∃n:amo,n.length=b.length*d.size/\(∀i∈n,i.oneCell'=bt)/\(∀c,ad=Y c->b≠[]->∀(k:X) i,n[k]?=Y i->f.cell? (c.add k)=Y i)/\∀(g:X) (o:d.den) (m:amu),b[g]?=Y o->q[g]?=Y m->aW e f d ((n.drop (g*d.size)).take d.size) o m:=by
 obtain⟨B,j⟩:=j;rcases j with rfl|⟨c,l,rfl,j⟩
 ·simp_all
 have A:∀a,a<b.length*d.size->∃i,f.cell? ⟨c,l+a,br⟩=Y i/\i.oneCell'=bt:=by
  intro a z;have r:a/d.size<b.length:=(apa t).2 z;obtain⟨h,v,p,d3⟩:=j (a/d.size) b[a/d.size] (q[a/d.size]'(by omega)) ac ac
  have C:=anT a t;have:h[a %d.size]?=Y (h[a %d.size]'(by omega)):=cH _
  refine⟨_,?_,d3.one _ (cT (by omega:a %d.size<h.length))⟩;have:=p _ _ this;grind [apb,Nat.mul_comm]
 have y:∀a,((bK (b.length*d.size)).map λa=>(f.cell? ⟨c,l+a,br⟩).getD bY)[a]?=if a<b.length*d.size then f.cell? ⟨c,l+a,br⟩ else br:=by grind
 refine⟨(bK (b.length*d.size)).map λa=>(f.cell? ⟨c,l+a,br⟩).getD bY,ac,?_,?_,?_⟩
 ·grind
 ·grind [anw]
 intro g o m u x;obtain⟨h,v,p,d3⟩:=j g o m u x;have r:g<b.length:=(iv.1 u).1;have:(((bK (b.length*d.size)).map λa=>(f.cell? ⟨c,l+a,br⟩).getD bY).drop (g*d.size)).take d.size=h:=by
  apply iJ;intro k;rcases c6 k d.size with s|s
  ·rw[te s,qA,y];have w:(g+1)*d.size<=b.length*d.size:=hW _ r;rw[la,iL] at w;rw[ay aa];have:h[k]?=Y (h[k]'(by omega)):=cH _
   rw[this,<-rW];exact p _ _ this
  grind
 grind
section
variable {P:b2}
theorem Wi {w:bF} {ty:bH} {j:TypeInfo} (p:P.underlying R=Y (.slice a)) (z:fD P d a) (i:P.info? a=Y j) (a4:d.size<=1300) {ad yd:bv ck} {n cap m c:X} {olds news:amo} (L:olds.length=n*d.size) (ap:∀b,ad=Y b->∀(f:X) (g:Value),olds[f]?=Y g->w.cell? (b.add f)=Y g) (av:∀b,ad=Y b->b.spot=br) (I:n<=cap) (an:ad=br->cap=0) (t:news.length=m*d.size) (G:∀g∈news,g.oneCell'=bt) (B:∀b,yd=Y b->0<m->∀(f:X) (g:Value),news[f]?=Y g->w.cell? (b.add f)=Y g) (bl:yd=br->m=0) (K:∀b,ad=Y b->jf w b.block b.off (b.off+cap*d.size)) (U:n+m<=hR):∃E o,(aoB #[R,R] ty #[.slice ad n cap,.slice yd m c]).run P w=.ok E o/\((
   n+m<=cap/\E=.slice ad (n+m) cap/\((ad=br/\o=w)\/∃b,ad=Y b/\o=w.setCells b.block (b.off+n*d.size) news))\/
   ∃(e:X) (v:eB),cap<n+m/\n+m<=e/\E=.slice (Y ⟨w.heap.size,0,br⟩) (n+m) e/\hL w o/\o.heap[w.heap.size]?=Y (.cells v a (0,0))/\o.heap.size=w.heap.size+1/\e*d.size<=v.size/\∀(f:X) (g:Value),(olds++news)[f]?=Y g->v[f]?=Y g):=by
 obtain⟨bs,_,h,_⟩:=z.info;have F:=h.info;rw[i] at F;cases F;have a3:=z.pos;by_cases C:n+m<=cap
 ·by_cases q:m=0
  ·subst q;obtain rfl:news=[]:=qv aa;have J:(aq8 d.size 0 (.slice yd 0 c)).run P w=.ok #[] w:=by
    cases yd with
    |none=>rfl
    |some b=>simp[aq8,loadCells,loadCellsFrom]
   refine⟨.slice ad n cap,w,?_,.inl ⟨C,bq,?_⟩⟩
   ·cases ad with
    |none=>simp[aoB,cd p,anm,am1,i,aq9,h.size,I,J]
    |some b=>simp[aoB,cd p,anm,am1,i,aq9,h.size,I,J,storeCells]
   cases ad with
   |none=>grind
   |some b=>exact .inr ⟨b,bq,bq⟩
  cases ad with
  |none=>grind
  |some b=>
   cases yd with
   |none=>grind
   |some k=>
    obtain⟨M,N,O⟩:=b;obtain rfl:O=none:=av _ rfl;have V:(n+m)*d.size<=cap*d.size:=hW _ C;rw[la] at V;have r:=run_append_room_cells (P:=P) w R ty a j p i M N n cap k m c news (by rw[h.size];exact t) (B k bq aa) G C (λf T=>(K _ rfl _ ae (by rw[h.size];grind)).1) (λf T=>(K _ rfl _ ae (by rw[h.size];grind)).2);rw[h.size] at r;grind
 obtain⟨l,a0,u⟩:=z.Ka;have u:=u j i;have q:0<m:=aa;cases yd with
 |none=>grind
 |some k=>
  have H:(n+m)*j.bytes<=140737488355328:=(by have G:(n+m)*j.bytes<=hR*31200:=n8 U (by have:=h.bytes;omega);grind [hR]);have A:((n+m:X):Z)<=9223372036854775807:=(by grind [hR]);have y:∀(D:X),let e:=grownCap w (n+m) D a
   n+m<=e/\hL w (w.drew.alloc (.cells (olds.toArray++news.toArray++aoC l.cells (e-(n+m))) a))/\
   (w.drew.alloc (.cells (olds.toArray++news.toArray++aoC l.cells (e-(n+m))) a)).heap[w.heap.size]?=Y (.cells (olds.toArray++news.toArray++aoC l.cells (e-(n+m))) a (0,0))/\
   e*d.size<=(olds.toArray++news.toArray++aoC l.cells (e-(n+m))).size/\
   ∀(f:X) (g:Value),(olds++news)[f]?=Y g->(olds.toArray++news.toArray++aoC l.cells (e-(n+m)))[f]?=Y g:=by
   intro D e;have S:n+m<=e:=grownCap_ge w (n+m) D a;refine⟨S,(hL.refl w).drew.trans (hL.alloc _ _),heap_alloc_new w.drew _,?_,?_⟩
   ·simp only[Array.size_append,vg,size_zeroCells,a0,L,t,<-la];grind
   grind
  cases ad with
  |some b=>
   have r:=run_append_grow (P:=P) w R ty a j l p i u b n cap olds (by rw[h.size];exact L) (ap b bq) k m c news (by rw[h.size];exact t) (B k bq q) aa A (growslice_fits aa H);obtain⟨x,f2,s,f4,f5⟩:=y cap;exact⟨_,_,r,.inr ⟨_,_,aa,x,bq,f2,s,ac,f4,f5⟩⟩
  |none=>
   have Q:=an bq;have am:n=0:=aa;subst Q;subst am;obtain rfl:olds=[]:=qv aa;simp only[l3] at A H y;have r:=run_append_nil (P:=P) w R ty a j l p i u k m c news (by rw[h.size];exact t) (B k bq q) q A aa;obtain⟨x,f2,s,f4,f5⟩:=y 0;simp only[h3,Array.empty_append] at x f2 s f4 f5;refine⟨_,_,r,.inr ⟨_,_,aa,aa,by rw[l3],f2,s,ac,f4,f5⟩⟩
end
end
theorem zl (b:X):∀(g:amo) (d:X) (c:bF) (a:X),a≠b->(c.setCells b d g).heap[a]?=c.heap[a]?
 |[],_,_,_,_=>rfl
 |v::f,d,c,a,e=>by rw[apc,zl b f _ _ a e];simp only[ara,Array.getElem?_modify];grind
theorem uQ (b:X):∀(e:amo) (c:X) (a:bF),(a.setCells b c e).heap.size=a.heap.size
 |[],_,_=>rfl
 |v::d,c,a=>by rw[apc,uQ b d];simp
def qj (b:X):∀(d:amo) (c:X) (a:bF),(a.setCells b c d).os=a.os/\(a.setCells b c d).tape=a.tape/\(a.setCells b c d).output=a.output
 |[],_,_=>⟨bq,bq,bq⟩
 |v::e,c,a=>by rw[apc];exact qj b e _ _
theorem Mf (d:X) (e:amo) (b:X) (f:bF) (g:∀c,c<e.length->(f.cell? ⟨d,b+c,br⟩).isSome=bt) (a:X):((f.setCells d b e).cell? ⟨d,a,br⟩).isSome=(f.cell? ⟨d,a,br⟩).isSome:=by
 by_cases h:b<=a/\a<b+e.length
 ·obtain⟨c,rfl⟩:∃c,a=b+c:=⟨a-b,aa⟩;grind [aoD]
 grind [apd]
theorem aay (b:bF) (c:ck) (d:Value) (a:X):jF (b.setCell c d) a=jF b a:=by unfold jF ara;grind
def BQ (d:X):∀(f:amo) (b:X) (c:bF) (a:X),jF (c.setCells d b f) a=jF c a
 |[],_,_,_=>rfl
 |v::e,b,c,a=>by rw[apc,BQ d e (b+1),aay]
theorem sS {vs:amo} {o:X} {w:bF} (a:h≠b):dm w (w.setCells b o vs) h:=.of_heap (zl b vs o w h a)
theorem NL {P:b2} {ty:bH} {d9:TypeInfo} (cv:P.underlying R=Y (.slice a)) (an:fD P d a) (d0:P.info? a=Y d9) (d5:d.size<=1300) {ad O:bv ck} {c:X} {q G:bp d.den} {s:ey} (T:aW e f (.osl d) [.slice ad h b] q j) (U:k8 e f d O G s) (a4:j.Nodup) (co:∀i∈j,∀o,¬e o i) (f7:s.flatten.Nodup) (dg:∀i∈j,i∉s.flatten) (cs:∀o i,e o i->i<f.heap.size) (dl:∀i∈j,i<f.heap.size) (d8:∀i∈s.flatten,i<f.heap.size) (d2:q.length+G.length<=hR):∃am p f2,(aoB #[R,R] ty #[.slice ad h b,.slice O G.length c]).run P f=.ok am p/\aW e p (.osl d) [am] (q++G) f2/\aW e p (.osl d) [.slice ad h b] q j/\f2.Nodup/\(∀i∈f2,i∈j\/i∈s.flatten\/(f.heap.size<=i/\i<p.heap.size))/\f.heap.size<=p.heap.size/\p.os=f.os/\p.tape=f.tape/\p.output=f.output/\(∀i,i<f.heap.size->i∉j->p.heap[i]?=f.heap[i]?)/\(∀o i,e o i->dm f p i)/\(∀i∈s.flatten,dm f p i)/\(∀i,i<f.heap.size->jF p i=jF f i):=by
 obtain⟨rfl,ap,x,bx,ft,fz,d7⟩:=k8.osl T;have bl:=an.pos;obtain⟨E,V,ge,eq,gf⟩:=bx.cells bl;obtain⟨u,ek,el,em,f9⟩:=U.cells bl;have a3:=bx.1;have f4:=U.1;obtain⟨am,p,S,c2⟩:=Wi (P:=P) (w:=f) (ty:=ty) cv an d0 d5 (ad:=ad) (yd:=O) (n:=q.length) (cap:=b) (m:=G.length) (c:=c) (olds:=E) (news:=u) V (λi I l v y=>eq i I ae l v y) (λi I=>by grind) ap (λK=>by grind) ek el (λi I f5 l v y=>em i I ae l v y) (λK=>by rcases U.2 with rfl|⟨i,gc,C,_⟩;rfl;grind) (λi I=>by
   grind) d2
 have fs:(x++s).flatten=x.flatten++s.flatten:=ac;have f6:(x++s).flatten.Nodup:=ae;have Q:∀(g:X) (D:d.den) (A:amu),(q++G)[g]?=Y D->(x++s)[g]?=Y A->aW e f d (((E++u).drop (g*d.size)).take d.size) D A/\∀i∈A,i∈x.flatten\/i∈s.flatten:=by
  intro g D A k J;rcases c6 g q.length with C|C
  ·rw[qy C] at k;rw[qy aa] at J;have t:(g+1)*d.size<=q.length*d.size:=hW _ C;rw[la,iL] at t;rw[u9 aa,vh ae];grind [an3,aot]
  rw[qz C] at k;rw[qz aa,a3] at J;have t:q.length*d.size<=g*d.size:=hW _ C;rw[List.drop_append,vb aa,h3,V,show g*d.size-q.length*d.size=(g-q.length)*d.size by rw[Nat.sub_mul]];grind [an3,aot]
 rcases c2 with⟨d4,rfl,d6⟩|⟨ce,ci,f0,fT,rfl,B,ds,f1,fr,fp⟩
 ·rcases d6 with⟨rfl,rfl⟩|⟨i,rfl,rfl⟩
  ·have fn:b=0:=ae;obtain rfl:q=[]:=qv aa;obtain rfl:G=[]:=qv aa;exact⟨_,p,j,S,ae,T,a4,λi I=>.inl I,bf _,bq,bq,bq,λ_ _ _=>rfl,λ_ _ _=>dm.refl _ _,λ_ _=>dm.refl _ _,λ_ _=>rfl⟩
  rcases d7 with⟨K,_⟩|⟨r,z,K,rfl,av⟩
  ·cases K
  cases K;have fl:r∉x.flatten:=(kS.1 a4).1;have c1:r∉s.flatten:=dg r ac;have d3:(q.length+G.length)*d.size<=b*d.size:=hW _ d4;rw[la] at d3;have bs:∀l,l<u.length->(f.cell? ⟨r,z+q.length*d.size+l,br⟩).isSome=bt:=λl y=>(av _ aa aa).1;have H:∀o g,e o g->e o g/\dm f (f.setCells r (z+q.length*d.size) u) g:=λo g k=>⟨k,sS (λM=>co r ac o (M▸k))⟩;have a0:jf (f.setCells r (z+q.length*d.size) u) r z (z+b*d.size):=λl t L=>(by rw[Mf r u _ f bs,apY];exact av l t L);have ex:∀l v,(E++u)[l]?=Y v->(f.setCells r (z+q.length*d.size) u).cell? ⟨r,z+l,br⟩=Y v:=by
   intro l v y;rcases c6 l E.length with C|C
   ·grind [anw,apd,List.getElem?_append_left]
   rw[qz C] at y;obtain⟨F,rfl⟩:∃F,l=E.length+F:=⟨l-E.length,aa⟩;rw[th] at y;have N:F<u.length:=(iv.1 y).1;rw[V,<-rW,aoD r u _ f bs F N];grind
  refine⟨_,_,r::(x++s).flatten,S,?_,?_,?_,?_,by rw[uQ];omega,(qj _ _ _ _).1,(qj _ _ _ _).2.1,(qj _ _ _ _).2.2,?_,λo g k=>(H o g k).2,λg k=>sS (λM=>c1 ae),λg _=>BQ _ _ _ _ _⟩
  ·refine⟨Y ⟨r,z,br⟩,b,ac,.inr ⟨r,z,x++s,bq,bq,ae,ae,a0,λg D A k J=>?_⟩⟩;obtain⟨t,L⟩:=Q g D A k J;refine⟨_,t.len,λl v y=>?_,t.mono H (λF N=>sS (λM=>?_))⟩
   ·have d1:(E++u)[g*d.size+l]?=Y v:=by
     grind
    grind
   grind
  ·refine⟨Y ⟨r,z,br⟩,b,bq,.inr ⟨r,z,x,bq,bq,a3,ap,a0,λg D A k J=>?_⟩⟩;have f3:g<q.length:=(iv.1 k).1;obtain⟨t,L⟩:=Q g D A ae ae;refine⟨_,t.len,λl v y=>?_,t.mono H (λF N=>sS (λM=>?_))⟩
   ·have d1:(E++u)[g*d.size+l]?=Y v:=by
     grind
    grind
   grind
  ·grind
  ·grind
  grind [zl]
 have H:∀o g,e o g->e o g/\dm f p g:=λo g k=>⟨k,.of_heap (B.heap g (cs o g k))⟩;have f8:∀l,p.cell? ⟨f.heap.size,l,br⟩=ci[l]?/\p.frozen? ⟨f.heap.size,l,br⟩=bu:=λl=>(by simp[anR,ao5,ds]);refine⟨_,p,f.heap.size::(x++s).flatten,S,?_,T.mono H (λg k=>.of_heap (B.heap g (dl g k))),?_,?_,B.size,B.os,B.tape,B.output,λg k _=>B.heap g k,λo g k=>(H o g k).2,λg k=>.of_heap (B.heap g (d8 g k)),λg k=>(dm.of_heap (B.heap g k)).2⟩
 ·refine⟨Y ⟨f.heap.size,0,br⟩,ce,ac,.inr ⟨f.heap.size,0,x++s,bq,bq,ae,ae,λl _ L=>?_,λg D A k J=>?_⟩⟩
  ·grind
  obtain⟨t,L⟩:=Q g D A k J;refine⟨_,t.len,λl v y=>?_,t.mono H (λF N=>.of_heap (B.heap F ?_))⟩
  ·grind
  grind
 ·grind
 grind
section
def fq.get:∀{p:bp a6} {b:ak} {c j:b.den} {e:ak} {k:e.den},fq b c p e k j->∃d,e2 b c p e d
 |[],b,c,_,_,_,a=>by obtain⟨rfl,_⟩:=fq.gK.1 a;exact⟨c,e2.gK.2 ⟨bq,bq⟩⟩
 |s::p,b,_,_,_,_,a=>by
  cases b<;>cases s<;>simp only[fq] at a
  case osl.idx=>obtain⟨g,f,i,a,_⟩:=a;obtain⟨d,h⟩:=fq.get (p:=p) a;exact⟨d,g,i,h⟩
  case optr.deref=>exact fq.get (p:=p) a
  case st.unst=>exact fq.get (p:=p) a
  case pr.fst=>obtain⟨f,a,_⟩:=a;exact fq.get (p:=p) a
  case pr.snd=>obtain⟨f,a,_⟩:=a;exact fq.get (p:=p) a
theorem fq.same:∀{p:bp a6} {c:ak} {b:c.den} {d:ak} {f:d.den},e2 c b p d f->fq c b p d f b
 |[],c,b,_,_,a=>by grind [fq.gK,e2.gK]
 |s::p,c,b,_,_,a=>by
  cases c<;>cases s<;>simp only[e2] at a
  case osl.idx i=>
   obtain⟨e,g,a⟩:=a;refine⟨e,e,g,fq.same (p:=p) a,?_⟩;grind [List.set_getElem_self,anL]
  case optr.deref=>exact fq.same (p:=p) a
  case st.unst=>exact fq.same (p:=p) a
  case pr.fst=>exact⟨b.1,fq.same (p:=p) a,bq⟩
  case pr.snd=>exact⟨b.2,fq.same (p:=p) a,bq⟩
def Gd {a:x} {c:X->x}:fC [(b,O)] (λ_=>a) c b=a:=by simp[fC,eJ]
section
variable {E:fP} {C:fg} {st:aR} {a:Act} {A:eB} {w:bF} {I:X->Prop} {rt:X->amo} {fp:X->amu} {o:bU}
theorem agV {cs:amo} (g:cs.length=V) (e:jf w h b (b+V)) (c:X):ta w (w.setCells h b cs) (Y (h,b)) V c:=by
 have i:∀a,a<cs.length->(w.cell? ⟨h,b+a,br⟩).isSome=bt:=λa f=>(e _ aa aa).1;refine⟨λa f=>apd h cs b w _ (λd _=>?_),λa=>apY _ _ _ _ _,λa=>?_,BQ _ _ _ _ _⟩
 ·grind
 by_cases d:c=h
 ·grind [Mf]
 rw[((sS (w:=w) (o:=b) (vs:=cs) d).1 a).1]
theorem cW.ahv (p:cW C st A w I rt fp) {id:X} (q:ax st.h id=Y O) {E:amo} (M:aZ w O.1 br (rt id) m d (Y (b,V)) E) {x:d.den} {r:O.1.den} (z:fq O.1 O.2 m d x r) {o:amu} (D:aW (bi I C.B) w d u x o) (fr:o.Nodup) (a3:id∉j) (eq:∀a∈o,(∃F,∃T:d.den,d.lr=bt/\aW (bi I C.B) w d E T F/\a∈F)\/∃c∈j,∃f,ax st.h c=Y f/\a∈fp c):jf w b V (V+d.size)/\∃rtn fpn,cW C ⟨kill (id::j) [(id,m)] st.g,(id,⟨O.1,r⟩)::del (id::j) st.h⟩ A (w.setCells b V u) I rtn fpn/\rtn id=rt id/\aZ (w.setCells b V u) O.1 br (rt id) m d (Y (b,V)) u:=by
 obtain⟨cs,Q,ek⟩:=p.tree id O q;obtain⟨T,ci⟩:=z.get;obtain⟨f0,d5,ad,R,am,d7,an,H,d8,ap,av⟩:=Bv m (loc:=br) cs (λ_ _ i=>by cases i) Q (λ_ _ i=>by cases i) (p.notM q) ci;obtain⟨_,ar,U⟩:=M.lj am;subst ar;subst U;obtain⟨_,y⟩:=an b V bq;have el:b∈R:=ae;have bl:b∈fp id:=H.mem_iff.2 ae;have P:=H.nodup_iff.1 Q;rw[jR] at P;obtain⟨fl,N,fn⟩:=P;have em:∀a∈o,a∈ad\/∃c∈j,∃f,ax st.h c=Y f/\a∈fp c:=λa e=>(by grind [aW.uniq]);have fs:∀c∈j,∀f,ax st.h c=Y f->∀a∈fp c,a∉fp id:=λc l f k a e J=>p.dis c id f O k q (λn=>a3 (n▸l)) a e J;have ce:∀a∈o,a∉R:=λa e J=>ae;have a0:∀v a,bi I C.B v a->a≠b:=λv a e n=>p.notM q b bl v (n▸e);have bs:=agV (w:=w) D.len y;have c1:aW (bi I C.B) (w.setCells b V u) d u x o:=D.mono (λv a e=>⟨e,sS (a0 v a e)⟩) (λa e=>sS (λn=>ce a e ae));have ft:∀t,t<u.length->(w.cell? ⟨b,V+t,br⟩).isSome=bt:=λt s=>(y _ aa (by have:=D.len;omega)).1;have d9:fG (w.setCells b V u) b V u:=λt d2 s=>(by grind [bZ,aoD,anL]);obtain⟨d6,G,c2,_,dl,_,fz,ds,dg⟩:=ap (w.setCells b V u) (bi I C.B) u x o r (λ_ _ i=>i) (λa _=>bs a) c1 (λi=>by cases i) (λd3 f1 n=>by grind) z;obtain rfl:=dl bq (.inl ac);have bx:∀a∈G,a∈fp id\/∃c∈j,∃f,ax st.h c=Y f/\a∈fp c:=λa e=>ae;have a4:=p.eK (S:=id::j) (keep:=[(id,m)]) (new:=[(id,⟨O.1,r⟩)]) (rtn:=λ_=>rt id) (fpn:=λ_=>G) (w':=w.setCells b V u) (I':=I) ⟨?_,(qj _ _ _ _).1,(qj _ _ _ _).2.1,(qj _ _ _ _).2.2,?_,λa _=>.of_eq (BQ _ _ _ _ _),λ_ i=>i,λ_ i=>.inl i,?_,?_,?_,?_⟩
 ·exact⟨y,_,_,a4,by rw[Gd],ds⟩
 ·grind [uQ]
 ·grind [zl]
 ·intro c f k;rw[eJ] at k;split at k
  ·rename_i n;subst n;cases k;refine⟨.inl ac,c2,?_,λa e=>?_⟩
   ·grind
   rcases bx a e with i|⟨c,l,f,k,i⟩
   ·grind [uQ]
   obtain⟨aB,d1,f3,bj⟩:=(p.tree c f k).2.2 a i;grind [uQ]
  cases k
 ·intro c t f d2 l s ex;rw[eJ] at l s;split at l
  ·split at s
   ·omega
   cases s
  cases l
 ·intro c l f k;simp only[gI] at l;subst l;rw[q] at k;obtain rfl:=gn k;refine⟨⟨O.1,r⟩,?_,bq,bq,⟨_,M.ty⟩,dg⟩;rw[eJ,ay bq]
 intro c l f k d0 f5 f4 fT d4 f2 K co N L cv;simp only[gI] at l;subst l;rw[q] at k;obtain rfl:=gn k;refine⟨⟨O.1,r⟩,by rw[eJ,ay bq],v5 K z L,λa e=>?_⟩;obtain⟨aB,d1⟩:=av d0 _ _ _ _ _ K (by exact co) L N cv a e;grind [ape,sS]
theorem cW.store (o:cW C st A w I rt fp) {id:X} (v:ax st.h id=Y O) {b:X} {c:amo} (r:aZ w O.1 br (rt id) m d (Y (b,V)) c) {n:d.den} {l:O.1.den} (t:fq O.1 O.2 m d n l) {S2:amu} (x:aW (bi I C.B) w d u n j) (s:j.Nodup) (p:id∉S2) (q:∀a∈j,(∃e,∃z:d.den,d.lr=bt/\aW (bi I C.B) w d c z e/\a∈e)\/∃i∈S2,∃y,ax st.h i=Y y/\a∈fp i):jf w b V (V+d.size)/\∃k f,cW C ⟨kill (id::S2) [(id,m)] st.g,(id,⟨O.1,l⟩)::del (id::S2) st.h⟩ A (w.setCells b V u) I k f:=by obtain⟨D,k,f,E,_⟩:=o.ahv v r t x s p q;grind
inductive xy where
 |ff (s:aR)
 |part (α:Type) (φ:α->Prop) (f:α->aR)
 |bad
def xy.K (c:xy) (Q:aR->Prop):Prop:=
 match c with
 |.ff d=>Q d
 |.part e f b=>∃a:e,f a/\Q (b a)
 |.bad=>b7
def fi (E:fP) (C:fg) (o:bU) (st:aR) (Q:aR->Prop):Prop:=
 ∀(a:Act) (w:bF),g0 C st a.tmps w->∀(next:Act->bF->Prop) (e:b8->Act->bF->Prop),(∀c b d,Q c->b.defers=a.defers->g0 C c b.tmps d->next b d)->o.wp E.P a w next e
variable {Q:aR->Prop}
def fi.eval {an:bp (X×ak)} (j:o.dst=Y b) (l:C.ok b) (i:(hp E.tt an st.h (aX st.g) b o.op).K (λc e=>Q ⟨(b,c)::st.g,e++st.h⟩)):fi E C o st Q:=by
 rintro a w ⟨I,rt,fp,d⟩ next r m
 exact(Ym d i).wp d j l (λc e f q n k p=>m _ f q n k p)
def sJ (b:bp (X×aI)) (c:ao):bv (X×bp a6):=
 match c with
 |.addr id a=>Y (id,a)
 |.ref id a=>match ax b id with
  |some ⟨d,_⟩=>match fE d a with
   |some (.optr _)=>Y (id,a++[.deref])
   |_=>br
  |none=>br
 |_=>br
def Hb (
 tt:bp (bH×ak)) (st:aR) (m:bH) (o v:ao):xy:=
 match sJ st.h o with
 |none=>.bad
 |some (
  id,p)=>match ax st.h id,ax tt m with
  |some ⟨b,e⟩,Y n=>match fE b p with
   |none=>.bad
   |some c=>bif bg n c then match v with
    |.ref d i=>match ax st.h d with
     |some ⟨r,j⟩=>bif bL id d then .bad else
      .part (c.den×b.den) (λa=>e2 r j i c a.1/\fq b e p c a.1 a.2) (λa=>⟨kill [id,d] [(id,p)] st.g,(id,⟨b,a.2⟩)::del [id,d] st.h⟩)
     |none=>.bad
    |.app d i f q l=>if _e:c=.osl f then
     .part (bp f.den×b.den) (λa=>d=id/\i=p/\e2 b e p (.osl f) a.1/\fq b e p (.osl f) (a.1++q) a.2) (λa=>⟨kill (id::l) [(id,p)] st.g,(id,⟨b,a.2⟩)::del (id::l) st.h⟩) else .bad
    |v=>match coe c v with
     |some j=>.part b.den (λk=>fq b e p c j k) (λk=>⟨kill [id] [(id,p)] st.g,(id,⟨b,k⟩)::del [id] st.h⟩)
     |none=>.bad
   else .bad
  |_,_=>.bad
theorem aeH (n:cW C st a.tmps w I rt fp) {id:X} (b:sJ st.h (aX st.g c)=Y (id,m)) (k:ax st.h id=Y O) (u:fE O.1 m=Y d):∃j q cs,a.eval c=.pointer (Y ⟨j,q,br⟩)/\aZ w O.1 br (rt id) m d (Y (j,q)) cs:=by
 have i:=n.aX c;unfold sJ at b;generalize A:a.eval c=D at i;split at b
 ·rename_i x z l;cases b;rw[l] at i;cases i with|addr f e=>
  rw[k] at f;cases f;have:=e.ty;grind
 ·rename_i x z l;split at b
  case h_2=>cases b
  rename_i F E p;split at b
  case h_2=>cases b
  rename_i B v;cases b;rw[k] at p;cases p;rw[l] at i;cases i with|ref f e=>
  rw[k] at f;cases f;have:=e.ty;rw[v] at this;cases this;obtain⟨j,y,t,rfl,r,s⟩:=qb (n.tree id _ k).1 e;have o:=e.append (aZ.Jq r s);have:=o.ty;rw[u] at this;cases this;exact⟨j,y,t,bq,o⟩
 grind
theorem ahu (j:ax E.tt R=Y d) (l:bg d q=bt) (s:o.op=.store R g c) (t:a.eval g=.pointer (Y ⟨h,b,br⟩)) {cs:amo} (p:(a.eval c).cells=cs.toArray) (r:cs.length=q.size) (i:∀c∈cs,c.oneCell'=bt) (f:jf w h b (b+q.size)):(bP a.eval o).run E.P w=.ok .skip (w.setCells h b cs):=by have n:=(E.ok R d j).lay l;have m:=run_storeCells_cells (P:=E.P) h b cs 0 w (λe k=>by simpa using(f (b+e) aa aa).1) (λe k=>by simpa using(f (b+e) aa aa).2) i;simp only[m4] at m;have:(storeVar R ⟨h,b,br⟩ (a.eval c)).run E.P w=.ok () (w.setCells h b cs):=(by simp only[storeVar,p,b0,n.sizeOf,b4];grind);simp_all [bP,Instr.storeAt,an4]
theorem aht {am:bO} (c2:o.op=.store R am c) (bl:o.dst=br) (b:(Hb E.tt st R (aX st.g am) (aX st.g c)).K Q):fi E C o st Q:=by
 rintro a w ⟨I,rt,fp,f⟩ next ap c1
 have h:=f.aX c;unfold Hb at b;split at b
 ·exact b.elim
 rename_i id fn dl;split at b
 case h_2=>exact b.elim
 rename_i f1 f0 ad p O;split at b
 ·exact b.elim
 rename_i t d1;cases u:bg ad t with
 |false=>rw[u] at b;exact b.elim
 |true=>
 rw[u] at b;simp only[bI] at b;obtain⟨M,H,d8,d2,v⟩:=aeH f dl p d1;have D:=(E.ok R ad O).lay u;have B:∀(j:amo) (J:aR) (e:X->amo) (d:X->amu),(a.eval c).cells=j.toArray->j.length=t.size->(∀c∈j,c.oneCell'=bt)->jf w M H (H+t.size)->cW C J a.tmps (w.setCells M H j) I e d->Q J->o.wp E.P a w next ap:=by
  intro j J e d ar z a0 a3 d0 ds;unfold amH;rw[ahu O u c2 d2 ar z a0 a3];show next (a.put o.dst bY) _
  rw[bl];exact c1 _ _ _ ds bq ⟨I,e,d,d0⟩
 split at b
 ·rename_i i U A;split at b
  case h_2=>exact b.elim
  rename_i f3 fz x;cases S:bL id i with
  |true=>rw[S] at b;exact b.elim
  |false=>
   rw[S] at b;obtain⟨⟨L,an⟩,⟨ce,n⟩,b⟩:=b;have eq:id≠i:=λN=>ag;rw[A] at h;generalize G:a.eval c=d6 at h;cases h with|ref q F=>
   rw[x] at q;cases q;obtain⟨s,V,fr⟩:=f.tree i _ x;obtain⟨fl,d9,f2,fs,d4,r,_,T,_⟩:=FH U (τ':=t) (y:=L) s (loc:=br) (λ_ _ b=>by cases b) V (λ_ _ b=>by cases b) (f.notM x) ce;obtain⟨rfl,rfl,rfl⟩:=F.lj d4;have cv:f2.Nodup:=(jR.1 (T.nodup_iff.1 V)).1;obtain⟨m,e,d,l⟩:=f.store p v n r cv (S2:=[i]) ae (λav a4=>.inr ⟨i,ac,_,x,T.mem_iff.2 ae⟩);exact B _ _ e d (by rw[G];exact pp D r.len r.one) r.len r.one m l b
 ·rename_i i U d7 fT d5 A;split at b
  case isFalse=>exact b.elim
  rename_i N;subst N;obtain⟨⟨ft,an⟩,⟨rfl,rfl,bs,n⟩,b⟩:=b;rw[A] at h;generalize G:a.eval c=d6 at h;cases h with|app q co F bx ek el k dg ex cs=>
  rw[p] at q;cases q;obtain rfl:=e2.uniq bs bx;obtain⟨_,ar,z⟩:=v.lj F;subst ar;subst z;have em:(ak.osl d7).lr=bt:=co;obtain⟨m,e,d,l⟩:=f.store p v n k cs (S2:=d5) (λci=>(dg _ ci).1 bq) (λav a4=>by
   grind)
  exact B _ _ e d (by rw[G];have:=pp D k.len k.one;exact this) k.len k.one m l b
 split at b
 case h_2=>exact b.elim
 rename_i L d3;obtain⟨an,n,b⟩:=b;have s:=IJ D h d3;obtain⟨m,e,d,l⟩:=f.store p v n s ac (S2:=[]) ac ac;exact B _ _ e d ac s.len s.one m l b
end
end
section
theorem FF (a:bp (bp x)) (c b:X):((a.take b).drop c).flatten.Sublist a.flatten:=by have d:a.flatten=((a.take b).take c).flatten++((a.take b).drop c).flatten++(a.drop b).flatten:=(by grind [List.flatten_append,List.take_append_drop]);grind
section
variable {E:fP} {C:fg} {st:aR} {a:Act} {A:eB} {w:bF} {I:X->Prop} {rt:X->amo} {fp:X->amu} {o:bU} {Q:aR->Prop}
def Dm (c:bp (X×ak)) (st:aR) (a:X) (i:ao):xy:=
 match i with
 |.ref id []=>match ax st.h id with
  |some b=>.ff ⟨(a,.ref a [])::kill [id,a] [] st.g,(a,b)::del [id,a] st.h⟩
  |none=>.bad
 |.ref id f=>bif bL id a then .bad else .ff ⟨(a,.ref id f)::kill [a] [] st.g,del [a] st.h⟩
 |.view id [] e d=>match ax st.h id with
  |some ⟨.osl b,j⟩=>.ff ⟨(a,.ref a [])::kill [id,a] [] st.g,(a,⟨.osl b,(j.take d).drop e⟩)::del [id,a] st.h⟩
  |_=>.bad
 |.eI (.slice br 0 0)=>match ax c a with
  |some (.osl b)=>.ff ⟨(a,.ref a [])::kill [a] [] st.g,(a,⟨.osl b,[]⟩)::del [a] st.h⟩
  |_=>.bad
 |_=>.bad
theorem ob.one {w':bF} {I':X->Prop} {S:amu} {d:X} {t:aI} {cs:amo} {f:amu} (x:d∈S\/ax st.h d=br) (j:w.heap.size<=w'.heap.size) (k:w'.os=w.os) (l:w'.tape=w.tape) (m:w'.output=w.output) (n:∀a,a<w.heap.size->(∀id∈S,∀t,ax st.h id=Y t->a∉fp id)->w'.heap[a]?=w.heap[a]?) (q:∀a,a<w.heap.size->jF w' a=jF w a) (o:∀a,I a->I' a) (p:∀a,I' a->I a\/(a<w'.heap.size/\(w.heap.size<=a\/∃id∈S,∃t,ax st.h id=Y t/\a∈fp id))) (A:aW (bi I' C.B) w' t.1 cs t.2 f) (y:f.Nodup) (g:∀a∈f,¬I' a/\a<w'.heap.size/\(w.heap.size<=a\/∃i∈S,∃u,ax st.h i=Y u/\a∈fp i)):ob C st w w' I I' rt fp S [] [(d,t)] (λ_=>cs) (λ_=>f):=by
 refine⟨j,k,l,m,n,λa g=>.of_eq (q a g),o,p,?_,?_,(λid r=>by grind),(λid r=>by grind)⟩
 ·intro s v e;rw[eJ] at e;split at e
  ·grind
  cases e
 intro s D v E b c z;rw[eJ] at b c;split at b
 ·split at c
  ·omega
  cases c
 cases b
theorem fi.Wn (d4:o.op=.assign c) (ds:o.dst=Y b) (V:C.ok b) (e:(Dm k st b (aX st.g c)).K Q):fi E C o st Q:=by
 rintro a w ⟨I,rt,fp,s⟩ next T d2
 have n:=s.aX c;have an:(bP a.eval o).run E.P w=.ok (.value (a.eval c)) w:=(by simp[bP,d4]);have G:∀(R:aR) (rtn:X->amo) (fpn:X->amu),cW C R (a.tmps.setIfInBounds b (a.eval c)) w I rtn fpn->Q R->o.wp E.P a w next T:=by
  intro R rtn fpn x L;unfold amH;rw[an];show next (a.put o.dst (a.eval c)) w
  rw[ds];exact d2 _ _ _ L bq ⟨I,rtn,fpn,x⟩
 have z:∀(S:amu) (i:aI) (cs:amo) (p:amu),b∈S->aW (bi I C.B) w i.1 cs i.2 p->p.Nodup->(∀l∈p,∃a3∈S,∃d9,ax st.h a3=Y d9/\l∈fp a3)->a.eval c=c9 i.1 cs->Q ⟨(b,.ref b [])::kill S [] st.g,(b,i)::del S st.h⟩->o.wp E.P a w next T:=by
  intro S i cs p d0 x A u d5 L;have v:=s.eK (ob.one (st:=st) (C:=C) (rt:=rt) (w':=w) (I':=I) (S:=S) (d:=b) (t:=i) (cs:=cs) (f:=p) (.inl d0) (bf _) rfl rfl rfl (λ_ _ _=>rfl) (λ_ _=>rfl) (λ_ e=>e) (λ_ e=>.inl e) x A (λl c2=>by
   obtain⟨D,q,ek,v,dg⟩:=u l c2;obtain⟨aB,d7,a4,bj⟩:=(s.tree D ek v).2.2 l dg;grind))
  refine G _ _ _ (v.put V (av:=.ref b []) ?_) L;rw[d5];refine .ref (t:=i) (loc:=br) (by rw[lp,eJ,ay bq];rfl) ?_;rw[Gd];exact aZ.here
 unfold Dm at e;split at e
 ·rename_i id m;split at e
  case h_2=>exact e.elim
  rename_i i y;rw[m] at n;obtain⟨O,bl,d8⟩:=s.tree id i y;refine z [id,b] i (rt id) (fp id) ac O bl (λl u=>⟨id,ac,i,y,u⟩) ?_ e;generalize ap:a.eval c=bs at n;cases n with|ref M am=>
  grind [aZ.gK]
 ·rename_i id N _ m;cases u:bL id b with
  |true=>rw[u] at e;exact e.elim
  |false=>
   rw[u] at e;have f0:id≠b:=λfn=>ag;have v:=s.eK (S:=[b]) (keep:=[]) (new:=[]) (rtn:=rt) (fpn:=fp) (w':=w) (I':=I) ⟨bf _,bq,bq,bq,λ_ _ _=>rfl,λ_ _=>.refl _ _,λ_ e=>e,λ_ e=>.inl e,(λ_ _ e=>by cases e),(λ_ _ _ _ e=>by cases e),(λ_ e=>by cases e),(λ_ e=>by cases e)⟩;refine G _ _ _ (v.put V (av:=.ref id N) ?_) e;have:=v.aX (a:=a) c;have fr:aX (kill [b] [] st.g) c=.ref id N:=by
    cases c with
    |tmp i=>
     show gt (kill [b] [] st.g) i=_;rw[q8,show gt st.g i=.ref id N from m];grind [hH,fU,fv,ao.fF,ao.ids,e6,absurd]
    |const el=>exact absurd m (by cases el<;>simp[aX])
    |global fs|func p=>cases m
   grind
 ·rename_i id j q m;split at e
  case h_2=>exact e.elim
  rename_i i bx y;rw[m] at n;obtain⟨O,bl,d8⟩:=s.tree id _ y;generalize ap:a.eval c=bs at n z G an;cases n with|mZ=>(exact z [id,b] ⟨.osl i,[]⟩ [.slice br 0 0] [] ac ⟨br,0,bq,.inl ⟨bq,bq,bq,bq⟩⟩ ac ac bq e)|view M am f1 f2 f3=>
  rename_i l F f4 r;rw[y] at M;cases M;obtain⟨ar,_,co⟩:=aZ.gK.1 am;cases ar;obtain⟨ad,ex,J,x⟩:=O;rw[co] at J;simp only[ij,amE,cf] at J;obtain⟨rfl,rfl,rfl⟩:=J;rcases x with⟨H,_⟩|⟨eq,f5,U,H,fz,aB,d7,a4,bj⟩
  ·cases H
  cases H;have d1:((bx.take q).drop j).length=q-j:=ae;refine z [id,b] ⟨.osl i,(bx.take q).drop j⟩ [.slice (Y ⟨l,if r=j then F else F+j*i.size,br⟩) (q-j) (r-j)] (l::((U.take q).drop j).flatten) ac ?_ ?_ ?_ bq e
  ·refine⟨Y ⟨l,if r=j then F else F+j*i.size,br⟩,r-j,by rw[d1],.inr ⟨l,_,(U.take q).drop j,bq,bq,ae,ae,?_,?_⟩⟩
   ·intro d6 cv c1;by_cases dl:r=j
    ·grind
    rw[aw dl] at cv c1;have:j*i.size+(r-j)*i.size=r*i.size:=(by rw[<-la];grind);exact a4 d6 aa aa
   intro D em p a0 A;have fT:D<q-j:=ae;rw[qA,te aa] at a0 A;obtain⟨ci,ce,fl,d3⟩:=bj (j+D) em p a0 A;refine⟨ci,ce,?_,d3⟩;grind
  ·grind [List.nodup_cons,FF]
  grind [FF,an2]
 ·rename_i m;split at e
  case h_2=>exact e.elim
  rename_i i ft;rw[m] at n;refine z [b] ⟨.osl i,[]⟩ [.slice br 0 0] [] ac ⟨br,0,bq,.inl ⟨bq,bq,bq,bq⟩⟩ ac ac ?_ e;generalize ap:a.eval c=bs at n;cases n;rfl
 exact e.elim
end
end
section
inductive mG (σ:ak) where
 |ff (ys:bp σ.den)
 |part (α:Type) (φ:α->Prop) (f:α->bp σ.den)
 |bad
def s6 (g:bp (X×aI)) (b:ak) (k:ao):mG b:=
 match k with
 |.val (.bc _ j) a=>if e:j=b then .ff (e▸a) else .bad
 |.eI (.slice br 0 0)=>.ff []
 |.ref id c=>match ax g id with
  |some ⟨f,d⟩=>bif b.pure then .part (bp b.den) (λa=>e2 f d c (.osl b) a) (λa=>a) else .bad
  |none=>.bad
 |.view id c i h=>match ax g id with
  |some ⟨f,d⟩=>bif b.pure then .part (bp b.den) (λa=>e2 f d c (.osl b) a) (λa=>(a.take h).drop i) else .bad
  |none=>.bad
 |_=>.bad
def mG.to {f:ak} (g:mG f) (c:X->Prop) (b:bp f.den->aR):xy:=
 match g with
 |.ff e=>.part bz (λ_=>c e.length) (λ_=>b e)
 |.part h i d=>.part h (λa=>i a/\c (d a).length) (λa=>b (d a))
 |.bad=>.bad
def Dk (
 tt:bp (bH×ak)) (t:bp (X×ak)) (st:aR) (a:X) (s:bH) (j k:ao):xy:=
 match hf tt s with
 |none=>.bad
 |some o=>match j with
  |.ref id []=>match ax st.h id with
   |some ⟨.osl b,d⟩=>bif bg o b&&b5 b.size 1300 then
    match b.pure,k with
    |false,.ref n []=>match ax st.h n with
     |some ⟨.osl v,c⟩=>if e:v=b then bif bL id n then .bad else .part bz (λ_=>d.length+c.length<=hR) (λ_=>⟨(a,.ref a [])::kill [id,n,a] [] st.g,(a,⟨.osl b,d++(e▸c)⟩)::del [id,n,a] st.h⟩) else .bad
     |_=>.bad
    |_,k=>(s6 st.h b k).to (λl=>d.length+l<=hR) (λc=>⟨(a,.ref a [])::kill [id,a] [] st.g,(a,⟨.osl b,d++c⟩)::del [id,a] st.h⟩)
    else .bad
   |_=>.bad
  |.ref id f=>match ax st.h id,ax st.h a with
   |some ⟨m,j⟩,br=>match fE m f with
    |some (.osl b)=>bif bg o b&&b5 b.size 1300&&b.lr then
     match s6 st.h b k with
     |.ff c=>.part (bp b.den) (λd=>e2 m j f (.osl b) d/\d.length+c.length<=hR) (λ_=>⟨(a,.app id f b c [a])::kill [id] [(id,f),(id,[])] st.g,(a,⟨.eO,()⟩)::(id,⟨m,j⟩)::del [id] st.h⟩)
     |.part u w p=>.part (bp b.den×u) (λi=>e2 m j f (.osl b) i.1/\w i.2/\i.1.length+(p i.2).length<=hR) (λi=>⟨(a,.app id f b (p i.2) [a])::kill [id] [(id,f),(id,[])] st.g,(a,⟨.eO,()⟩)::(id,⟨m,j⟩)::del [id] st.h⟩)
     |.bad=>.bad
     else .bad
    |_=>.bad
   |_,_=>.bad
  |.view id [] r q=>match ax st.h id with
   |some ⟨.osl b,d⟩=>bif bg o b&&b5 b.size 1300 then
    (s6 st.h b k).to (λl=>((d.take q).drop r).length+l<=hR) (λc=>⟨(a,.ref a [])::kill [id,a] [] st.g,(a,⟨.osl b,(d.take q).drop r++c⟩)::del [id,a] st.h⟩)
    else .bad
   |_=>.bad
  |.eI (.slice br 0 0)=>match ax t a with
   |some (.osl b)=>bif bg o b&&b5 b.size 1300 then
    (s6 st.h b k).to (λl=>l<=hR) (λc=>⟨(a,.ref a [])::kill [a] [] st.g,(a,⟨.osl b,c⟩)::del [a] st.h⟩)
    else .bad
   |_=>.bad
  |_=>.bad
section
variable {E:fP} {C:fg} {st:aR} {a:Act} {A:eB} {w:bF} {I:X->Prop} {rt:X->amo} {fp:X->amu} {o:bU} {Q:aR->Prop}
def z7 (I:X->Prop) (e:X->Prop) (w:bF) (d:ak) (g:Value) (c:bp d.den):Prop:=
 ∃b f a,g=.slice b c.length f/\k8 (bi I e) w d b c a/\a.flatten=[]
def JO {b:ey} (c:∀a∈b,a=[]):b.flatten=[]:=by
 induction b with
 |nil=>rfl
 |cons f g e=>rw[my,c f ac,e (λa d=>c a (gH _ d))];rfl
theorem k8.pure {f:eM->X->Prop} {e:ak} {ad:bv ck} {d:bp e.den} {c:ey} (h:e.pure=bt) (a:k8 f w e ad d c):c.flatten=[]:=by
 refine JO (λl g=>?_);obtain⟨p,a⟩:=a;obtain⟨b,m,rfl⟩:=hN.1 g;rcases a with rfl|⟨j,o,_,a⟩
 ·grind
 have n:b<d.length:=aa;obtain⟨k,_,_,i⟩:=a b d[b] c[b] ac ac;exact i.pure h
def mG.holds {c:ak} (e:mG c) (b:bp c.den):Prop:=
 match e with
 |.ff f=>b=f
 |.part g h d=>∃a:g,h a/\b=d a
 |.bad=>b7
def mG.Hi {f:mG d} {g:bp d.den->aR} (b:(f.to i g).K Q):∃a,f.holds a/\i a.length/\Q (g a):=by
 unfold mG.to at b;cases f with
 |ff a=>obtain⟨_,c,e⟩:=b;exact⟨a,bq,c,e⟩
 |part l m k=>obtain⟨h,⟨c,e⟩,j⟩:=b;exact⟨k h,⟨h,c,bq⟩,e,j⟩
 |bad=>exact b.elim
theorem w6 (v:cW C st a.tmps w I rt fp) {s:bp d.den} (b:(s6 st.h d (aX st.g c)).holds s):z7 I C.B w d (a.eval c) s:=by
 have f:=v.aX c;unfold s6 at b;generalize T:a.eval c=a4 at f;split at b
 ·rename_i ap a3 q j;split at b
  case isFalse=>exact b.elim
  rename_i n;subst n;obtain rfl:s=q:=b;rw[j] at f;cases f with|val D=>
  have L:=D;obtain⟨_,ad,m,rfl,_⟩:=L;obtain⟨_,e⟩:=k8.bc D;exact⟨ad,m,_,bq,e,ac⟩
 ·rename_i j;obtain rfl:s=[]:=b;rw[j] at f;cases f;exact⟨br,0,[],bq,⟨bq,.inl bq⟩,bq⟩
 ·rename_i id K j;split at b
  case h_2=>exact b.elim
  rename_i N M o;cases k:d.pure with
  |false=>rw[k] at b;exact b.elim
  |true=>
   rw[k] at b;obtain⟨q,x,rfl⟩:=b;rw[j] at f;cases f with|ref p y=>
   rw[o] at p;cases p;obtain⟨rfl,t,r,_⟩:=v.lM o x y;have J:=r;obtain⟨ad,m,rfl,_⟩:=J;obtain⟨_,_,u,e,_⟩:=k8.osl r;exact⟨ad,m,u,bq,e,e.pure k⟩
 ·rename_i id K i l j;split at b
  case h_2=>exact b.elim
  rename_i N M o;cases k:d.pure with
  |false=>rw[k] at b;exact b.elim
  |true=>
   rw[k] at b;obtain⟨q,x,rfl⟩:=b;rw[j] at f;cases f with|mZ=>(exact⟨br,0,[],bq,⟨bq,.inl bq⟩,bq⟩)|view p y U V am=>
   rename_i E a0 an m;rw[o] at p;cases p;obtain⟨n,t,r,_⟩:=v.lM o x y;cases n;obtain⟨ar,_,u,e,_⟩:=k8.osl r;have H:((q.take l).drop i).length=l-i:=ae;show z7 I C.B w d _ ((q.take l).drop i);refine⟨_,m-i,(u.take l).drop i,by rw[H],⟨by simp[e.1],?_⟩,?_⟩
   ·obtain⟨R,e⟩:=e;by_cases S:l=i
    ·grind
    right;rcases e with rfl|⟨O,av,n,e⟩
    ·grind
    cases n;refine⟨E,_,bq,λA c t f z=>?_⟩;have Q:A<l-i:=ae;rw[qA,te aa] at f z;obtain⟨G,F,P,d3⟩:=e (i+A) c t f z;refine⟨G,F,?_,d3⟩;grind
   have:=e.pure k;grind [FF]
 exact b.elim
theorem aiu {a c k:X} {l:bp d.den} (o:aW e w (.osl d) [.slice (Y ⟨a,c,br⟩) k h] l j) (z:j.Nodup) (B:b<=V) (C:V<=k) (D:k<=h):∃g,aW e w (.osl d) [.slice (Y ⟨a,if h=b then c else c+b*d.size,br⟩) (V-b) (h-b)] ((l.take V).drop b) g/\g.Nodup/\∀n∈g,n∈j:=by
 obtain⟨ad,y,m,t⟩:=o;simp only[ij,amE,cf] at m;obtain⟨rfl,rfl,rfl⟩:=m;rcases t with⟨i,_⟩|⟨x,E,f,i,rfl,aB,F,v,bj⟩
 ·cases i
 cases i;have s:((l.take V).drop b).length=V-b:=ae;have A:((f.take V).drop b).flatten.Sublist f.flatten:=FF _ _ _;refine⟨a::((f.take V).drop b).flatten,⟨Y ⟨a,if h=b then c else c+b*d.size,br⟩,h-b,by rw[s],.inr ⟨a,_,(f.take V).drop b,bq,bq,ae,aa,?_,?_⟩⟩,?_,?_⟩
 ·intro u p q;by_cases r:h=b
  ·grind
  rw[aw r] at p q;have:b*d.size+(h-b)*d.size=h*d.size:=(by rw[<-la];grind);exact v u aa aa
 ·grind
 ·grind
 grind
def NK (d:o.op=.call {callee:=.builtin .append,args:=#[c,g],argTypes:=#[R,R]}) {b:Value} (e:(aoB #[R,R] o.type #[a.eval c,a.eval g]).run E.P w=.ok b f):(bP a.eval o).run E.P w=.ok (.value b) f:=by simp only[bP,d,anf,invoke,anz,b0,cz,b4,ao9,hA,tg,e]
theorem fi.Ad {H J:bO} (c1:o.op=.call {callee:=.builtin .append,args:=#[H,J],argTypes:=#[R,R]}) (ap:o.dst=Y b) (a4:C.ok b) (n:cW C st a.tmps w I rt fp) {next:Act->bF->Prop} (cv:∀F x l,Q F->x.defers=a.defers->g0 C F x.tmps l->next x l) {G:ak} (U:hf E.tt R=Y G) (ce:bg G q=bt) (ds:q.size<=1300) {S:amu} (a0:b∈S) {ad:bv ck} {D y:X} {xs p:bp q.den} {f1:amu} {u:ey} {K:bv ck} (fs:a.eval H=.slice ad D y) (dl:aW (bi I C.B) w (.osl q) [.slice ad D y] xs f1) (bs:f1.Nodup) (ex:∀e∈f1,∃i∈S,∃j,ax st.h i=Y j/\e∈fp i) (ft:a.eval J=.slice K p.length V) (bl:k8 (bi I C.B) w q K p u) (bx:u.flatten.Nodup) (fl:∀e∈u.flatten,∃i∈S,∃j,ax st.h i=Y j/\e∈fp i) (a3:∀e∈f1,e∉u.flatten) (ci:xs.length+p.length<=hR) (c2:Q ⟨(b,.ref b [])::kill S [] st.g,(b,⟨.osl q,xs++p⟩)::del S st.h⟩):o.wp E.P a w next r:=by
 obtain⟨i,ek,el,N,O⟩:=hf.ok U;have z:=O.lay ce;obtain⟨fz,_,d1,_⟩:=z.info;have fr:∀i j,ax st.h i=Y j->∀e∈fp i,e<w.heap.size/\∀A,¬bi I C.B A e:=λi j v e k=>⟨((n.tree i j v).2.2 e k).2.2.1,n.notM v e k⟩;obtain⟨s,l,f2,f3,d3,_,aY,d4,d5,d6,d7,d8,d2,f4,_,d9⟩:=NL (P:=E.P) (ty:=o.type) N z d1.info ds dl (c:=V) bl bs (λe k=>by grind) bx a3 (λA e co=>n.ib e (nP co)) (λe k=>by grind) (λe k=>by grind) ci;have dg:(bP a.eval o).run E.P w=.ok (.value s) l:=NK (E:=E) c1 ae;have an:∀e∈f2,(∃i∈S,∃j,ax st.h i=Y j/\e∈fp i)\/(w.heap.size<=e/\e<l.heap.size):=λe k=>by
  rcases d4 e k with m|m|m
  ·grind
  ·grind
  omega
 have d0:=n.eK (ob.one (st:=st) (C:=C) (rt:=rt) (w':=l) (I':=I) (S:=S) (d:=b) (t:=⟨.osl q,xs++p⟩) (cs:=[s]) (f:=f2) (.inl a0) d5 d6 d7 d8 (λe k em=>d2 e k (λeq=>by grind)) d9 (λ_ m=>m) (λ_ m=>.inl m) d3 aY (λe k=>by
   rcases an e k with⟨i,fn,j,v,am⟩|⟨L,M⟩
   ·obtain⟨aB,fT,f0,bj⟩:=(n.tree i j v).2.2 e am;grind
   exact⟨λT=>by have:=n.ib e (.inl T);omega,M,.inl L⟩))
 unfold amH;rw[dg];show next (a.put o.dst s) l
 rw[ap];refine cv _ _ _ c2 bq ⟨I,_,_,d0.put a4 (av:=.ref b []) ?_⟩;have:s=c9 (.osl q) [s]:=rfl;rw[this];refine .ref (t:=⟨.osl q,xs++p⟩) (loc:=br) (by rw[lp,eJ,ay bq];rfl) ?_;rw[Gd];exact aZ.here
end
end
section
section
variable {E:fP} {C:fg} {st:aR} {a:Act} {A:eB} {w:bF} {I:X->Prop} {rt:X->amo} {fp:X->amu} {o:bU} {Q:aR->Prop}
theorem NN {a4 f0:bO} (i1:o.op=.call {callee:=.builtin .append,args:=#[a4,f0],argTypes:=#[R,R]}) (ci:o.dst=Y b) (hc:C.ok b) (p:cW C st a.tmps w I rt fp) {next:Act->bF->Prop} (i0:∀fz bl w',Q fz->bl.defers=a.defers->g0 C fz bl.tmps w'->next bl w') {a3:ak} (gf:hf E.tt R=Y a3) (ic:bg a3 q=bt) (i8:q.size<=1300) (ds:q.lr=bt) {id:X} (hi:aX st.g a4=.ref id m) {n:d.den} (v:ax st.h id=Y ⟨d,n⟩) (gt:ax st.h b=br) {y O:bp q.den} (c1:e2 d n m (.osl q) y) {S2:amu} (kg:∃d2 G A,a.eval f0=.slice d2 O.length G/\k8 (bi I C.B) w q d2 O A/\A.flatten.Nodup/\∀e∈A.flatten,∃f∈S2,∃z,ax st.h f=Y z/\e∈fp f) (ce:∀f∈S2,f≠id/\∃a3,ax st.h f=Y a3) (ii:y.length+O.length<=hR) (em:Q ⟨(b,.app id m q O (b::S2))::kill [id] [(id,m),(id,[])] st.g,(b,⟨.eO,()⟩)::(id,⟨d,n⟩)::del [id] st.h⟩):o.wp E.P a w next r:=by
 obtain⟨f,or,bx,f8,f9⟩:=hf.ok gf;have d5:=f9.lay ic;obtain⟨rd,_,l2,_⟩:=d5.info;have d0:=p.aX a4;rw[hi] at d0;generalize kd:a.eval a4=sl at d0;cases d0 with|ref s dl=>
 rename_i s0 d3 cs;rw[v] at s;cases s;simp only at dl;obtain⟨mc,fr,mo⟩:=p.tree id _ v;obtain⟨rl,oN,H,d1,f4,d4,f5,T,pv,f6,f7⟩:=Bv m (loc:=br) mc (λ_ _ j=>by cases j) fr (λ_ _ j=>by cases j) (p.notM v) c1;obtain⟨f1,ar,f3⟩:=dl.lj f4;subst f1;subst ar;subst f3;have el:=T.nodup_iff.1 fr;rw[jR] at el;obtain⟨io,ek,is⟩:=el;obtain⟨ad,bs,rfl,_⟩:=(show aW (bi I C.B) w (.osl q) cs y H from d4);obtain⟨d2,G,A,lc,hr,hv,cv⟩:=kg;have am:∀e∈H,e∈fp id:=λe i=>T.mem_iff.2 ae;have dg:∀e∈fp id,e<w.heap.size/\∀M,¬bi I C.B M e:=λe i=>⟨(mo e i).2.2.1,p.notM v e i⟩;have lb:∀e∈A.flatten,e<w.heap.size:=λe i=>(by obtain⟨f,l,z,an,U⟩:=cv e i;exact((p.tree f z an).2.2 e U).2.2.1);obtain⟨fT,w',f2,mt,mz,ft,cS,nd,ne,nn,no,nx,fs,rs,_,n7⟩:=NL (P:=E.P) (ty:=o.type) f8 d5 l2.info i8 d4 (c:=G) hr io (λe i=>(dg e (am e i)).2) hv (λe i go=>by
  obtain⟨f,l,z,an,U⟩:=cv e go;exact p.dis id f _ z v an (ce f l).1.symm e (am e i) U)
  (λM e d9=>p.ib e (nP d9)) (λe i=>(dg e (am e i)).1) lb ii
 have i3:(bP a.eval o).run E.P w=.ok (.value fT) w':=NK (E:=E) i1 (by rw[kd,lc];exact mt);have eq:∀e∈d1,e<w.heap.size/\e∉H:=λe i=>⟨(dg e (T.mem_iff.2 ae)).1,λj=>is e j e i bq⟩;have ex:∀e,(∃M,bi I C.B M e)\/e∈d1->dm w w' e:=λe i=>by
  rcases i with⟨M,d9⟩|i
  ·grind
  exact .of_heap (fs e (eq e i).1 (eq e i).2)
 have gi:∀e N,d3=Y (e,N)->fG w' e N [.slice ad y.length bs]:=λe N k=>(by have i:e∈d1:=ae;exact(f5 e N k).1.sm (ex e (.inr i)));obtain⟨pl,J,rg,_,le,_,lf,lk⟩:=f6 w' (bi I C.B) [.slice ad y.length bs] y H n (λ_ _ j=>j) (λe i=>by
  have V:dm w w' e:=ex e (by
   rcases i with j|j|⟨N,j⟩
   ·grind
   ·grind
   grind)
  exact⟨λx _=>(V.1 x).1,λx=>(V.1 x).2,λx=>by rw[(V.1 x).1],V.2⟩) ft (λ_ _=>rfl) gi (fq.same c1)
 obtain rfl:=le bq (.inr bq);have ra:J.Perm (fp id):=lf.trans T.symm;have u:b≠id:=λk=>ae;have d7:∀e∈f2,e∈H\/e∈A.flatten\/(w.heap.size<=e/\e<w'.heap.size):=λe i=>nd e i
 let K:=f2.filter λe=>bw (w.heap.size<=e)
 have hs:∀e∈K,w.heap.size<=e/\e<w'.heap.size:=λe i=>by
  have gl:=hV.1 i;have bx:w.heap.size<=e:=ae;rcases d7 e gl.1 with j|j|j
  ·grind
  ·grind
  omega
 have jp:=p.eK (S:=[id]) (keep:=[(id,m),(id,[])]) (new:=[(b,⟨.eO,()⟩),(id,⟨d,n⟩)]) (rtn:=λf=>if f=b then[] else rt id) (fpn:=λf=>if f=b then K else J) (w':=w') (I':=I) ⟨ne,nn,no,nx,λe i ge=>fs e i (λj=>ge id ac _ v (am e j)),λe i=>.of_eq (n7 e i),λ_ j=>j,λ_ j=>.inl j,(by
   intro f F l;rw[eJ] at l;split at l
   ·rename_i k;subst k;cases l;refine⟨.inr gt,(by simp only[cq];exact bq),ae,λe i=>?_⟩;simp only[cq] at i;obtain⟨aB,a0⟩:=hs e i;exact⟨λgc=>by have:=p.ib e (.inl gc);omega,a0,.inl aB⟩
   ·rw[eJ] at l;split at l
    ·rename_i _ k;subst k;grind
    cases l),(by
   intro f x of ol l hw rb e i;have d6:∀ap F,ax [(b,(⟨.eO,()⟩:aI)),(id,⟨d,n⟩)] ap=Y F->ap=b\/ap=id:=λap F D=>by
    rw[eJ] at D;split at D
    ·omega
    rw[eJ] at D;split at D
    ·omega
    cases D
   have L:¬(id=b):=λk=>u k.symm;rcases d6 f of l with rfl|rfl<;>rcases d6 x ol hw with rfl|rfl
   ·omega
   ·grind
   ·grind
   omega),(by
   intro f l F s;have c2:f=(id,m)\/f=(id,[]):=ae;have bx:f.1=id:=ae;have s:ax st.h id=Y F:=ae;rw[v] at s;obtain rfl:=gn s;have L:¬(id=b):=λk=>u k.symm;refine⟨⟨d,n⟩,by rw[bx,eJ,aw u,eJ,ay bq],bq,ae,(by rcases c2 with rfl|rfl;exact⟨_,dl.ty⟩;exact⟨d,by cases d<;>rfl⟩),λfn _ _ _ D em=>?_⟩;grind [FY]),(by
   intro f l F s fn s1 sz lo os pm ci ds ek d8 i2;have c2:f=(id,m)\/f=(id,[]):=ae;rcases c2 with rfl|rfl
   ·rw[v] at s;obtain rfl:=gn s;have L:¬(id=b):=λk=>u k.symm;refine⟨⟨d,n⟩,by rw[eJ,aw u,eJ,ay bq],d8,λG gs=>?_⟩;obtain⟨aB,a0⟩:=f7 fn _ _ _ _ _ ci (by exact ds) d8 ek i2 G gs;grind
   grind [v2])⟩
 unfold amH;rw[i3];show next (a.put o.dst fT) w'
 rw[ci];refine i0 _ _ _ em bq ⟨I,_,_,jp.put hc (av:=.app id m q O (b::S2)) ?_⟩;have L:¬(id=b):=λk=>u k.symm;have ll:ax ([(b,(⟨.eO,()⟩:aI)),(id,⟨d,n⟩)]++del [id] st.h) id=Y ⟨d,n⟩:=(by rw[lp,eJ,aw u,eJ,ay bq];rfl);have lo:ax ([(b,(⟨.eO,()⟩:aI)),(id,⟨d,n⟩)]++del [id] st.h) b=Y ⟨.eO,()⟩:=(by rw[lp,eJ,ay bq];rfl);have fl:ax [(b,(⟨.eO,()⟩:aI)),(id,⟨d,n⟩)] id=Y ⟨d,n⟩:=(by rw[eJ,aw u,eJ,ay bq]);have lt:ax [(b,(⟨.eO,()⟩:aI)),(id,⟨d,n⟩)] b=Y ⟨.eO,()⟩:=(by rw[eJ,ay bq]);have ps:fC [(b,(⟨.eO,()⟩:aI)),(id,⟨d,n⟩)] (λf=>if f=b then K else J) fp id=J:=(by simp only[fC,fl,aw L]);have pr:fC [(b,(⟨.eO,()⟩:aI)),(id,⟨d,n⟩)] (λf=>if f=b then K else J) fp b=K:=(by simp only[fC,lt,cq]);have mp:fC [(b,(⟨.eO,()⟩:aI)),(id,⟨d,n⟩)] (λf=>if f=b then[] else rt id) rt id=rt id:=(by simp only[fC,fl,aw L]);have ix:aZ w' d br (rt id) m (.osl q) d3 [.slice ad y.length bs]:=lk.1;refine .app (t:=⟨d,n⟩) ll ds (by rw[mp];exact ix) c1 ft (λe i=>by grind) mz ?_ ?_ cS
 ·intro f l;rcases fH.1 l with rfl|l
  ·grind
  obtain⟨aB,on,a0⟩:=ce f l;have co:¬(b=f):=λk=>ae;refine⟨aB,on,?_⟩;rw[lp,eJ,aw co,eJ,aw (λk=>aB k.symm),nO,aw ae,a0];rfl
 intro e i;rcases d7 e i with j|j|j
 ·grind
 ·obtain⟨f,l,z,an,U⟩:=cv e j;obtain⟨aB,_⟩:=ce f l;have co:¬(b=f):=λk=>ae;have ro:ax [(b,(⟨.eO,()⟩:aI)),(id,⟨d,n⟩)] f=br:=(by rw[eJ,aw co,eJ,aw (λk=>aB k.symm)];rfl);exact .inr ⟨f,gH _ l,by grind [fC]⟩
 grind
def NM {p:bO} (M:o.op=.call {callee:=.builtin .append,args:=#[c,p],argTypes:=#[R,R]}) (z:o.dst=Y b) (D:C.ok b) (x:cW C st a.tmps w I rt fp) {next:Act->bF->Prop} (L:∀j e l,Q j->e.defers=a.defers->g0 C j e.tmps l->next e l) {k:ak} (y:hf E.tt R=Y k) (H:bg k d=bt) (O:d.size<=1300) (K:d.lr=bt) {id:X} (F:aX st.g c=.ref id m) {i:q.den} (S:ax st.h id=Y ⟨q,i⟩) (A:ax st.h b=br) {n f:bp d.den} (G:e2 q i m (.osl d) n) (T:z7 I C.B w d (a.eval p) f) (J:n.length+f.length<=hR) (N:Q ⟨(b,.app id m d f [b])::kill [id] [(id,m),(id,[])] st.g,(b,⟨.eO,()⟩)::(id,⟨q,i⟩)::del [id] st.h⟩):o.wp E.P a w next r:=by obtain⟨U,s,t,u,v,V⟩:=T;exact NN (S2:=[]) M z D x L y H O K F S A G ⟨U,s,t,u,v,ae,ae⟩ ac J N
end
end
section
section
variable {E:fP} {C:fg} {st:aR} {o:bU} {Q:aR->Prop}
theorem fi.app {d0:bp (X×ak)} {U:bH} {z L:bO} {s:X} (y:o.op=.call {callee:=.builtin .append,args:=#[z,L],argTypes:=#[U,U]}) (v:o.dst=Y s) (w:C.ok s) (a:(Dk E.tt d0 st s U (aX st.g z) (aX st.g L)).K Q):fi E C o st Q:=by
 rintro A J ⟨F,R,H,c⟩ next fs x
 have q:=c.aX z;unfold Dk at a;split at a
 ·exact a.elim
 rename_i T u;split at a
 ·rename_i id t;split at a
  case h_2=>exact a.elim
  rename_i e l f;cases b:(bg T e&&b5 e.size 1300) with
  |false=>rw[b] at a;exact a.elim
  |true=>
  rw[b] at a;simp only[cJ] at b;obtain⟨j,d⟩:=b;have d:=ha d;simp only[bI] at a;rw[t] at q;generalize D:A.eval z=dl at q;cases q with|ref I av=>
  rw[f] at I;cases I;obtain⟨ar,_,G⟩:=aZ.gK.1 av;subst ar;subst G;obtain⟨O,P,ex⟩:=c.tree id _ f;obtain⟨ad,am,fT,_⟩:=(show aW (bi F C.B) J (.osl e) (R id) l (H id) from O);have c1:A.eval z=.slice ad l.length am:=(by rw[D];show(R id).headD bY=_;grind);have dg:aW (bi F C.B) J (.osl e) [.slice ad l.length am] l (H id):=ae;split at a
  ·rename_i k f3 d1;split at a
   case h_2=>exact a.elim
   rename_i ds r N;split at a
   case isFalse=>exact a.elim
   rename_i bs;subst bs;cases bx:bL id k with
   |true=>rw[bx] at a;exact a.elim
   |false=>
   rw[bx] at a;have d5:id≠k:=λbs=>(by grind [an9]);obtain⟨_,h,a⟩:=a;have a0:=c.aX L;rw[d1] at a0;generalize p:A.eval L=gc at a0;cases a0 with|ref cv d4=>
   rw[N] at cv;cases cv;obtain⟨ar,_,G⟩:=aZ.gK.1 d4;subst ar;subst G;obtain⟨fl,fp,f9⟩:=c.tree k _ N;obtain⟨a4,bl,f0,_⟩:=(show aW (bi F C.B) J (.osl ds) (R k) r (H k) from fl);have d6:A.eval L=.slice a4 r.length bl:=(by rw[p];show(R k).headD bY=_;grind);have fn:aW (bi F C.B) J (.osl ds) [.slice a4 r.length bl] r (H k):=ae;obtain⟨_,_,M,n,ci,d3,_⟩:=k8.osl fn;exact fi.Ad y v w c x u j d (S:=[id,k,s]) ac c1 dg P (λm b=>⟨id,ac,_,f,b⟩) d6 n (d3 fp) (λm b=>⟨k,ac,_,N,ci m b⟩) (λm b d2=>c.dis id k _ _ f N d5 m b (ci m d2)) h a
  obtain⟨r,i,h,a⟩:=mG.Hi a;obtain⟨a3,V,M,p,n,an⟩:=w6 c i;exact fi.Ad y v w c x u j d (S:=[id,s]) ac c1 dg P (λm b=>⟨id,ac,_,f,b⟩) p n ae ae ae h a
 ·rename_i id f8 f4 t;split at a
  case h_2=>exact a.elim
  rename_i gi ge f ce;split at a
  case h_2=>exact a.elim
  rename_i e f5;cases b:(bg T e&&b5 e.size 1300&&e.lr) with
  |false=>rw[b] at a;exact a.elim
  |true=>
  rw[b] at a;simp only[cJ] at b;obtain⟨⟨j,d⟩,cs⟩:=b;have d:=ha d;simp only[bI] at a;split at a
  ·rename_i r i;obtain⟨l,⟨ap,h⟩,a⟩:=a;exact NM y v w c x u j d cs t f ce ap (w6 c (by rw[i];exact bq)) h a
  ·rename_i gf gl ft i;obtain⟨⟨l,el⟩,⟨ap,d7,h⟩,a⟩:=a;exact NM y v w c x u j d cs t f ce ap (w6 c (by rw[i];exact⟨el,d7,bq⟩)) h a
  exact a.elim
 ·rename_i id c2 co t;split at a
  case h_2=>exact a.elim
  rename_i e l f;cases b:(bg T e&&b5 e.size 1300) with
  |false=>rw[b] at a;exact a.elim
  |true=>
  rw[b] at a;simp only[cJ] at b;obtain⟨j,d⟩:=b;have d:=ha d;simp only[bI] at a;rw[t] at q;obtain⟨O,P,ex⟩:=c.tree id _ f;generalize D:A.eval z=dl at q;cases q with|mZ=>(obtain⟨r,i,h,a⟩:=mG.Hi a;obtain⟨a3,V,M,p,n,an⟩:=w6 c i;exact fi.Ad y v w c x u j d (S:=[id,s]) ac (xs:=[]) (f1:=[]) D ⟨br,0,bq,.inl ⟨bq,bq,bq,bq⟩⟩ ac ac p n ae ae ac ae ae)|view I av d8 d9 ek=>
  rename_i m f7 f6 am;rw[f] at I;cases I;obtain⟨ar,_,G⟩:=aZ.gK.1 av;cases ar;obtain⟨r,i,h,a⟩:=mG.Hi a;obtain⟨a3,V,M,p,n,an⟩:=w6 c i;rw[G] at O;obtain⟨fr,aB,em,eq⟩:=aiu (show aW (bi F C.B) J (.osl e) _ l (H id) from O) P d8 d9 ek;have f2:((l.take co).drop c2).length=co-c2:=(by grind [k8.osl]);exact fi.Ad y v w c x u j d (S:=[id,s]) ac D aB em (λm b=>⟨id,ac,_,f,eq m b⟩) p n ae ae ae h a
 ·rename_i t;split at a
  case h_2=>exact a.elim
  rename_i e fz;cases b:(bg T e&&b5 e.size 1300) with
  |false=>rw[b] at a;exact a.elim
  |true=>
  rw[b] at a;simp only[cJ] at b;obtain⟨j,d⟩:=b;have d:=ha d;simp only[bI] at a;rw[t] at q;generalize D:A.eval z=dl at q;cases q;obtain⟨r,i,h,a⟩:=mG.Hi a;obtain⟨a3,V,M,p,n,an⟩:=w6 c i;exact fi.Ad y v w c x u j d (S:=[s]) ac (xs:=[]) (f1:=[]) D ⟨br,0,bq,.inl ⟨bq,bq,bq,bq⟩⟩ ac ac p n ae ae ac ae ae
 exact a.elim
end
end
section
def iM (E:fP) (C:fg) (A:bW bU) (g:amu) (st:aR) (Q:aR->Prop):Prop:=
 ∀(a:Act) (e:bF),g0 C st a.tmps e->∀c:b8->Act->bF->Prop,(∀d b f,Q d->b.defers=a.defers->g0 C d b.tmps f->c .normal b f)->wpOps E.P A c g a e
def lz (A:bW bU) (st:aR) (d:bU) (a:bD):Prop:=
 match d.guard with
 |none=>a=bt
 |some (c,e)=>match(A[c]?).bind (·.dst) with
  |some b=>match gt st.g b with
   |.val .bool f=>(f==e)=a
   |.eI (.tuple _)=>a=bu
   |_=>b7
  |none=>b7
section
variable {E:fP} {C:fg} {st:aR} {A:bW bU} {Q:aR->Prop}
theorem lz.ok {b:Act} (h:cW C st b.tmps f i o p) {l:bU} {g:bD} (d:lz A st l g):apf l (yielded A b.tmps)=g:=by
 unfold lz at d;unfold apf;split at d
 ·grind
 rename_i t w m;rw[m];split at d
 ·rename_i c j;split at d
  ·rename_i s e;have:=h.tmp c;rw[e] at this;generalize a:b.tmps.getD c bY=r at this;cases this with|val q=>
   obtain⟨_,rfl⟩:=q;have n:b.tmps[c]?=Y (.bool s):=by
    rw[apZ] at a;cases k:b.tmps[c]? with
    |none=>rw[k] at a;cases a
    |some v=>rw[k] at a;simp only[xw] at a;rw[a];rfl
   simp only[yielded,j,aM,n];rw[<-d];grind
  ·rename_i u e;have:=h.tmp c;rw[e] at this;generalize a:b.tmps.getD c bY=r at this;cases this;subst d;simp only[yielded,j,aM];rw[apZ] at a;grind
  grind
 grind
def iM.nil (b:Q st):iM E C A [] st Q:=λa e c _ d=>d st a e b bq c
def iM.op {a:bU} (p:A[b]?=Y a) (t:lz A st a bt) (i:fi E C a st (λd=>iM E C A j d Q)):iM E C A (b::j) st Q:=by intro f v c e q;obtain⟨y,B,z,l⟩:=id c;simp only[wpOps,p];rw[t.ok l,ay bq];exact .inl (i f v c _ _ (λd g w o m r=>o g w r e (λu h x k n s=>q u h x k (n.trans m) s)))
theorem iM.skip {a:bU} (q:A[V]?=Y a) (n:a.dst=Y b) (p:C.ok b) (t:lz A st a bu) (k:iM E C A j ⟨(b,.eI bY)::st.g,st.h⟩ Q):iM E C A (V::j) st Q:=by intro y w m e r;obtain⟨d,u,i,c⟩:=id m;simp only[wpOps,q];rw[t.ok c,aw ac,n];exact k _ w ⟨d,u,i,c.put p (.eI bY)⟩ e (λv f x l o s=>r v f x l o s)
def g0.Ar {b:eB} {c:bF} {st a:aR} (f:g0 C st b c) (j:pX a.g st) (k:pY a.h st) (l:ni a.g a.h=bt):g0 C a b c:=by obtain⟨d,m,e,i⟩:=f;exact⟨d,m,e,i.Ar j k (ni.get l)⟩
def J (E:fP) (C:fg) (e:cx) (st:aR) (Q:b8->aR->Prop):Prop:=
 ∀(a:Act) (d:bF),g0 C st a.tmps d->a.defers=[]->e.wp E.P (λf b g=>∃c,Q f c/\g0 C c b.tmps g/\b.defers=[]) a d
variable {R:b8->aR->Prop}
def J.aiy {a:cx} (f:pX z.g st) (i:pY z.h st) (j:ni z.g z.h=bt) (c:J E C a z R):J E C a st R:=λb k d e=>c b k (d.Ar f i j) e
theorem J.region {id:X} (c:iM E C A (bK A.size) st (λa=>R .normal a)):J E C (.region id A bu) st R:=
 λb i d e=>wp_region (c b i d _ (λa _a' _w' g f h=>⟨a,g,h,f.trans e⟩))
theorem J.skip (a:R .normal st):J E C .skip st R:=λ_ _ b c=>wp_skip ⟨st,a,b,c⟩
theorem J.exit {id:X} (a:R (.exit id) st):J E C (.exit id) st R:=λ_ _ b c=>wp_exit ⟨st,a,b,c⟩
theorem J.ret (a:R .ret st):J E C .ret st R:=λ_ _ b c=>wp_ret ⟨st,a,b,c⟩
def agU (E:fP) (C:fg) (b:cx) (R:b8->aR->Prop):b8->aR->Prop
 |.normal,a=>J E C b a R
 |e,a=>R e a
def J.seq {d e:cx} (i:J E C d st (agU E C e R)):J E C (.seq d e) st R:=λf m j k=>by
 refine wp_seq (wp_mono (i f m j k) ?_);rintro h g n ⟨l,a,b,c⟩;cases h with
 |normal=>exact a g n b c
 |_=>exact⟨l,a,b,c⟩
def J.cond {a:bO} {l m:cx} {c:bD} (n:aX st.g a=.val .bool c) (p:c=bt->J E C l st R) (o:c=bu->J E C m st R):J E C (.cond a l m) st R:=by
 rintro b k ⟨f,j,h,e⟩ i;have:=e.aX a;rw[n] at this;generalize q:b.eval a=s at this;cases this with|val r=>
 obtain⟨_,rfl⟩:=r;exact wp_cond_split q (λd=>p d b k ⟨f,j,h,e⟩ i) (λd=>o d b k ⟨f,j,h,e⟩ i)
def Iu (id:X) (R:b8->aR->Prop):b8->aR->Prop
 |.exit b,a=>match bL b id with
  |true=>R .normal a
  |false=>R (.exit b) a
 |e,a=>R e a
theorem J.block {id:X} {b:cx} (f:J E C b st (Iu id R)):J E C (.block id b) st R:=λd m i j=>by
 refine wp_block (wp_mono (f d m i j) ?_);rintro e n o ⟨l,a,g,h⟩;cases e with
 |exit c=>
  simp only[Exit.inBlock];simp only[Iu] at a;by_cases k:c=id
  ·subst k;rw[an9] at a;grind
  have:bL c id=bu:=(by grind [anl]);grind
 |_=>exact⟨l,a,g,h⟩
def kf {a c:Type} (b:a->bv (a⊕c)):X->a->bv c
 |0,_=>br
 |n+1,e=>match b e with
  |none=>br
  |some (.inl f)=>kf b n f
  |some (.inr d)=>Y d
def J0:X:=1000000
open Classical in
@[irreducible] def loop {σ ρ:Type} (b:σ->bv (σ⊕ρ)) (c:σ):bv ρ:=
 match kf b J0 c with
 |some a=>Y a
 |none=>if h:∃a,∃d,kf b d c=Y a then Y h.choose else br
def KJ {e g:Type} {f:e->bv (e⊕g)}:∀{n b:X} {d:e} {c:g},n<=b->kf f n d=Y c->kf f b d=Y c
 |0,_,_,_,_,a=>by cases a
 |n+1,0,_,_,a,_=>by omega
 |n+1,b+1,d,c,h,a=>by
  simp only[kf] at a|-;split at a
  ·cases a
  ·exact KJ aa a
  omega
def QJ {a:x->bv (x⊕y)} {e:x} {c d:y} (f:kf a h e=Y c) (g:kf a b e=Y d):c=d:=
 gn ((KJ (Nat.le_max_left h b) f).symm.trans (KJ (Nat.le_max_right h b) g))
theorem BM {c:x->bv (x⊕y)} {e:x} {b:y}:loop c e=Y b↔∃a,kf c a e=Y b:=by
 unfold loop;constructor
 ·intro f;split at f
  ·exact⟨J0,ae⟩
  split at f
  ·grind
  grind
 rintro⟨a,d⟩;split
 ·rename_i k h;rw[QJ d h]
 have g:∃b,∃a,kf c a e=Y b:=⟨b,a,d⟩;rw[anS g];obtain⟨j,i⟩:=g.choose_spec;rw[QJ d i]
theorem QK (c:x->bv (x⊕y)) (d:x):loop c d=match c d with
 |none=>br
 |some (.inl f)=>loop c f
 |some (.inr e)=>Y e:=by
 apply Option.ext;intro e;rw[BM];cases i:c d with
 |none=>
  simp only[reduceCtorEq,iff_false];rintro⟨a,b⟩;cases a with
  |zero=>cases b
  |succ a=>grind [kf]
 |some g=>
  cases g with
  |inl f=>
   simp only;rw[BM];constructor
   ·rintro⟨a,b⟩;cases a with
    |zero=>cases b
    |succ a=>grind [kf]
   rintro⟨a,b⟩;exact⟨a+1,by grind [kf]⟩
  |inr j=>
   simp only;constructor
   ·rintro⟨a,b⟩;cases a with
    |zero=>cases b
    |succ a=>grind [kf]
   intro h;exact⟨1,by grind [kf]⟩
theorem J.loop {σ ρ I:Type} {b:cx} (lI:σ->aR) {y:σ->bv (σ⊕ρ)} {r:σ} {v:ρ->bv I} {H:I} (M:(loop y r).bind v=Y H) (S:pX (lI r).g st) (T:pY (lI r).h st) (U:ni (lI r).g (lI r).h=bt) (Q:∀d p,y d=Y p->(match p with|.inl _=>True|.inr F=>v F=Y H)->J E C b (lI d) (λc s=>match p with
  |.inl q=>c=.normal/\pX (lI q).g s/\pY (lI q).h s/\ni (lI q).g (lI q).h=bt
  |.inr _=>(c=.normal->b7)/\R c s)):J E C (.loop b) st R:=by
 obtain⟨F,ad,a4⟩:=e3.1 M;obtain⟨o,i⟩:=BM.1 ad;have an:∀(o:X) (d:σ) (e:Act) (k:bF),kf y o d=Y F->g0 C (lI d) e.tmps k->e.defers=[]->∀(j:Frame) (v:bp Item) (cs:bp Frame),
  ∃c u A,(∃s,R c s/\g0 C s u.tmps A/\u.defers=[])/\Arrives E.P (lone (j.at e (.code b::.inLoop b::v)) cs k) j v cs c u A:=by
  intro o
  induction o with
  |zero=>intro d e k i;cases i
  |succ o am=>
   intro d e k i B D j z cs;simp only[kf] at i;cases G:y d with
   |none=>grind
   |some p=>
    rw[G] at i;have O:=Q d p G (by
     grind)
    obtain⟨c,l,t,⟨w,a,n,m⟩,f⟩:=O e k B D j (.inLoop b::z) cs;cases p with
    |inl q=>
     simp only at i a;obtain⟨rfl,aB,ap,av⟩:=a;obtain⟨L,K,a0,V,N⟩:=am q l t i (n.Ar aB ap av) m j z cs;exact⟨L,K,a0,V,.of_steps (Steps.trans f (.one step_inLoop)) N⟩
    |inr bx=>
     obtain⟨bl,a⟩:=a;cases c with
     |normal=>grind
     |exit id=>exact⟨_,l,t,⟨w,a,n,m⟩,.pass (x:=.inLoop b) rfl (λ_ _=>.inl ac) f⟩
     |goto bs=>exact⟨_,l,t,⟨w,a,n,m⟩,.pass (x:=.inLoop b) rfl (λ_ _=>.inl ac) f⟩
     |ret=>exact⟨_,l,t,⟨w,a,n,m⟩,.pass (x:=.inLoop b) rfl (λ_ _=>.inl ac) f⟩
     |panic a3=>exact⟨_,l,t,⟨w,a,n,m⟩,.pass (x:=.inLoop b) rfl (λ_ _=>.inl ac) f⟩
     |outgrown=>exact⟨_,l,t,⟨w,a,n,m⟩,.pass (x:=.inLoop b) rfl (λ_ _=>.inl ac) f⟩
 refine J.aiy S T U (λe k B D j z cs=>?_);obtain⟨c,u,A,a,f⟩:=an o r e k i B D j z cs;exact⟨c,u,A,a,.of_steps (.one step_loop) f⟩
end
end
def uz:eM->eM->bD
 |.bm,_|.cX,.cX=>bt
 |.cX,.bm=>bu
def yC:eM->bD
 |.cX=>bt
 |.bm=>bu
def eZ:ak->ak->bD
 |.int i,.int j=>if i=j then bt else bu
 |.bool,.bool|.str,.str|.nil,.nil=>bt
 |.bc c a,.bc d b=>uz c d&&eZ a b
 |.osl a,.bc c b=>yC c&&eZ a b
 |.ptr c a,.ptr d b=>uz c d&&eZ a b
 |.st a,.st b=>eZ a b
 |.pr e f,.pr g h=>eZ e g&&eZ f h
 |.mp a,.fd c b=>yC c&&eZ a b
 |.fd c a,.fd d b=>uz c d&&eZ a b
 |.fn k a,.fn c b=>bL k c&&eZ a b
 |_,_=>bu
theorem uz.ok {f e:X->Prop} (h:∀b,i b->e b) {c d:eM} (g:uz c d=bt) (a:bi f i c b):bi f e d b:=by
 cases c<;>cases d
 ·exact a
 ·exact .inl a
 ·cases g
 exact a.imp id (h b)
theorem yC.ok {a:eM} (b:yC a=bt):a=.cX:=by cases a;cases b;rfl
theorem eZ.den:∀{e b:ak},eZ e b=bt->e.den=b.den:=by
 intro e
 induction e with
 |bc f c d=>
  intro b a;cases b<;>simp only[eZ] at a<;>try (cases a;done)
  grind
 |ptr f c d=>
  intro b a;cases b<;>simp only[eZ] at a<;>try (cases a;done)
  grind
 |osl c d=>
  intro b a;cases b<;>simp only[eZ] at a<;>try (cases a;done)
  grind
 |st c d=>
  intro b a;cases b with
  |st m=>grind [eZ]
  |_=>simp only[eZ] at a;cases a
 |pr g h i j=>
  intro b a;cases b<;>simp only[eZ] at a<;>try (cases a;done)
  grind
 |int k|bool|str|nil=>intro b a;cases b<;>simp only[eZ] at a<;>first|rfl|cases a
 |optr c _|eO=>grind [eZ]
 |mp c d=>
  intro b a;cases b<;>simp only[eZ] at a<;>try (cases a;done)
  grind
 |fd f c d=>
  intro b a;cases b<;>simp only[eZ] at a<;>try (cases a;done)
  grind
 |fn l c d=>
  intro b a;cases b<;>simp only[eZ] at a<;>try (cases a;done)
  grind
theorem eZ.size:∀{c b:ak},eZ c b=bt->c.size=b.size:=by
 intro c
 induction c with
 |st i d=>intro b a;cases b<;>simp only[eZ] at a<;>first|(simp only[ak.size];exact d a)|cases a
 |pr e f g h=>
  intro b a;cases b<;>simp only[eZ] at a<;>try (cases a;done)
  simp only[cJ] at a;grind [ak.size]
 |_=>intro b a;cases b<;>simp only[eZ] at a<;>first|rfl|cases a
theorem P3 (k:x=y) {d:bv (bp (Z×x)×X)} {g:bv (bp (Z×y)×X)} (l:HEq d g):(d=br/\g=br)\/∃i a j,d=Y (i,a)/\g=Y (j,a)/\∀e:bp (Z×X×x),k9 e i a->∃f:bp (Z×X×y),k9 f j a/\f.length=e.length/\∀(h:X) (c:Z×X×y),f[h]?=Y c->∃b:Z×X×x,e[h]?=Y b/\b.1=c.1/\b.2.1=c.2.1/\HEq b.2.2 c.2.2:=by
 subst k;cases l;cases d with
 |none|some m=>grind
theorem eZ.c9 {a b:ak} (c:eZ a b=bt) (cs:amo):c9 b cs=j5.c9 a cs:=by cases a<;>cases b<;>simp only[eZ] at c<;>first|rfl|cases c
theorem P2 (f:y=x) {a:bp y} {b:bp x} (g:HEq a b):b.length=a.length/\∀(e:X) (d:x),b[e]?=Y d->∃c,a[e]?=Y c/\HEq c d:=by subst f;grind
theorem Zn (e:x=y) {a:bv x} {c:bv y} (f:HEq a c):(a=br/\c=br)\/∃b d,a=Y b/\c=Y d/\HEq b d:=by
 subst e;cases f;cases a with
 |none|some b=>grind
theorem Zo {c d:Type} (e:x=c) (f:y=d) {a:x×y} {b:c×d} (g:HEq a b):HEq a.1 b.1/\HEq a.2 b.2:=by grind
theorem aW.cX {C B:X->Prop} (K:∀d,B d->i d):∀{q υ:ak} {cs:amo} {x:q.den} {y:υ.den} {e:amu},eZ q υ=bt->HEq x y->aW (bi C B) f q cs x e->(∀d∈e,i d)->aW (bi C i) f υ cs y []:=by
 intro q
 induction q with
 |int ce=>
  intro υ cs x y e a c b _;cases υ<;>simp only[eZ] at a<;>try (cases a;done)
  split at a
  ·rename_i H;subst H;cases c;exact⟨bq,b.2⟩
  grind
 |bool|str|nil=>intro υ cs x y e a c b _;cases υ<;>simp only[eZ] at a<;>first|(cases a;done)|(cases c;exact⟨bq,b.2⟩)
 |optr k _|eO=>grind [eZ]
 |mp k j=>
  intro υ cs x y e a c b g;cases υ<;>simp only[eZ] at a<;>try (cases a;done)
  simp only[cJ] at a;obtain rfl:=yC.ok a.1;rcases P3 (eZ.den a.2) c with⟨rfl,rfl⟩|⟨O,D,P,rfl,rfl,h⟩
  ·exact⟨bq,b.2⟩
  obtain⟨d,u,r,aB,m,w,p,bj,R⟩:=b;obtain⟨s,z,o,h⟩:=h r w;refine⟨d,u,s,aB,bq,z,.inr (g d ae),p,aa,λl Q M=>?_⟩;grind [eZ.size,eZ.c9]
 |fd A k j=>
  intro υ cs x y e a c b g;cases υ<;>simp only[eZ] at a<;>try (cases a;done)
  simp only[cJ] at a;rcases P3 (eZ.den a.2) c with⟨rfl,rfl⟩|⟨O,D,P,rfl,rfl,h⟩
  ·exact⟨bq,b.2⟩
  obtain⟨d,u,r,aB,m,w,L,p,bj,R⟩:=b;obtain⟨s,z,o,h⟩:=h r w;refine⟨d,u,s,aB,bq,z,uz.ok K a.1 L,p,aa,λl Q M=>?_⟩;grind [eZ.size,eZ.c9]
 |fn ci k j=>
  intro υ cs x y e a c b g;cases υ<;>simp only[eZ] at a<;>try (cases a;done)
  rename_i A n;simp only[cJ] at a;obtain rfl:=fJ a.1;obtain⟨_,S,aB,m⟩:=b;exact⟨bq,S,aB,j (υ:=n) (x:=x) (y:=y) a.2 c m ac⟩
 |st k j=>
  intro υ cs x y e a c b g;cases υ with
  |st n=>exact j (υ:=n) (x:=x) (y:=y) (by grind [eZ]) c b g
  |_=>simp only[eZ] at a;cases a
 |pr G d bs bx=>
  intro υ cs x y e a c b g;cases υ<;>simp only[eZ] at a<;>try (cases a;done)
  rename_i D V;simp only[cJ] at a;obtain⟨a0,f2,rfl,v,J⟩:=b;obtain⟨ar,av⟩:=Zo (eZ.den a.1) (eZ.den a.2) c;have bl:=eZ.size a.1;exact⟨[],[],bq,ae,ae⟩
 |bc A k j=>
  intro υ cs x y e a c b g;obtain⟨rfl,ad,t,rfl,aB,m,p⟩:=b;cases υ<;>simp only[eZ] at a<;>try (cases a;done)
  rename_i E n;simp only[cJ] at a;obtain⟨o,h⟩:=P2 (eZ.den a.2) c;refine⟨bq,ad,t,by rw[o],aa,m,?_⟩;grind [uz.ok,eZ.size,List.eq_nil_of_length_eq_zero]
 |osl k j=>
  intro υ cs x y e a c b g;cases υ<;>simp only[eZ] at a<;>try (cases a;done)
  rename_i E n;simp only[cJ] at a;obtain rfl:=yC.ok a.1;obtain⟨ad,t,rfl,b⟩:=b;obtain⟨o,h⟩:=P2 (eZ.den a.2) c;rcases b with⟨rfl,rfl,rfl,rfl⟩|⟨d,F,I,rfl,rfl,aB,m,p,bj⟩
  ·obtain rfl:y=[]:=qv aa;exact⟨bq,br,0,bq,bf _,λ_=>rfl,.inl bq⟩
  refine⟨bq,Y ⟨d,F,br⟩,t,by rw[o],aa,(λa=>by cases a),.inr ⟨d,F,bq,.inr (g d ac),λl T N=>?_⟩⟩;obtain⟨U,v,J⟩:=h l T N;have a4:l<x.length:=(iv.1 v).1;obtain⟨ap,am,an,d3⟩:=bj l U (I[l]'(by omega)) v ac
  grind [an2,an3,ca,eZ.size]
 |ptr A k j=>
  intro υ cs x y e a c b g;obtain⟨rfl,b⟩:=b;cases υ<;>simp only[eZ] at a<;>try (cases a;done)
  rename_i E n;simp only[cJ] at a;refine⟨bq,?_⟩;rcases Zn (eZ.den a.2) c with⟨rfl,rfl⟩|⟨G,d,rfl,rfl,a3⟩
  ·exact b
  grind [uz.ok,eZ.size]
inductive oZ:(τ:ak)->τ.den->(υ:ak)->υ.den->Prop
 |same {τ υ:ak} {x:τ.den} {y:υ.den} (h:eZ τ υ=bt) (Zm:HEq x y):oZ τ x υ y
 |ptr {t u:ak} {x:t.den} {y:u.den} (h:eZ t u=bt) (Zm:HEq x y):oZ (.optr t) x (.ptr .cX u) (Y y)
theorem oZ.rep {g B:X->Prop} (h:∀a,B a->i a) {cs:amo} {l:d.den} {m:q.den} (b:oZ d l q m) (k:aW (bi g B) f d cs l j) (e:∀a∈j,i a):aW (bi g i) f q cs m []:=by
 cases b with
 |same b c=>exact k.cX h b c e
 |ptr b c=>
  obtain⟨a,p,s,o,rfl,rfl,aB,r,u,bj⟩:=k;exact⟨bq,a,p,o,bq,.inr (e a ac),by grind [eZ.size],r,bj.cX h b c (λn t=>e n ae)⟩
def oZ.st {b:d.den} {c:q.den} (a:oZ d b q c) (cs:amo):c9 d cs=c9 q cs:=by
 cases a with
 |same a _=>cases d<;>cases q<;>first|rfl|(simp only[eZ] at a;cases a;done)
 |ptr a _=>rfl
section
def m9 {c d e:Type} (b:c->d->e->Prop):bp c->bp d->bp e->Prop
 |[],[],[]=>True
 |a::as,f::g,h::cs=>b a f h/\m9 b as g cs
 |_,_,_=>b7
def i5 {c d:Type} (b:c->d->Prop):bp c->bp d->Prop
 |[],[]=>True
 |a::as,e::f=>b a e/\i5 b as f
 |_,_=>b7
theorem Nx {d e:Type} {f:d->e->Prop}:∀{as:bp d} {c:bp e},i5 f as c->c.length=as.length
 |[],[],_=>rfl
 |[],_::_,b|_::_,[],b=>b.elim
 |a::as,g::c,b=>by have:=Nx b.2;grind
def H9 {e f:Type} {c:e->f->Prop}:∀{as:bp e} {d:bp f} {g:bp e} {h:bp f},i5 c as d->i5 c g h->i5 c (as++g) (d++h)
 |[],[],_,_,_,b=>b
 |[],_::_,_,_,b,_|_::_,[],_,_,b,_=>b.elim
 |a::as,j::d,_,_,b,i=>⟨b.1,H9 b.2 i⟩
theorem Aa {h i:Type} {f:h->i->Prop}:∀{as:bp h} {c:bp i},as.length=c.length->(∀(e:X) a b,as[e]?=Y a->c[e]?=Y b->f a b)->i5 f as c
 |[],[],_,_=>trivial
 |[],_::_,d,_|_::_,[],d,_=>by cases d
 |a::as,b::c,d,g=>⟨g 0 a b bq rfl,Aa ae (λe j k l m=>g (e+1) j k ae ae)⟩
def Ia {b g h:Type} {c:g->h->Prop} {d:b->g} {e:b->h} (f:∀x,c (d x) (e x)):∀a:bp b,i5 c (a.map d) (a.map e)
 |[]=>trivial
 |x::a=>⟨f x,Ia f a⟩
inductive h1 where
 |v (t:aI)
 |m (t:aI) (y:t.1.den)
 |o (t:aI)
 |c (f:X) (aja:bp aI)
 |n
 |s (f:X) (l:amu)
 |w (σ:ak) (xs:bp σ.den) (lo hi:X) (ys:bp σ.den)
def zA (I b:X->Prop) (w:bF) (a:aI) (c:Value):Prop:=∃cs,c=c9 a.1 cs/\aW (bi I b) w a.1 cs a.2 []
def zx (I e:X->Prop) (w:bF):h1->Value->amu->Prop
 |.v b,d,a=>a=[]/\∃cs,d=c9 b.1 cs/\aW (bi I e) w b.1 cs b.2 []
 |.m b _,d,a|.o b,d,a=>∃cs,d=c9 b.1 cs/\aW (bi I e) w b.1 cs b.2 a
 |.n,d,a=>a=[]/\d=.slice br 0 0
 |.s _ _,_,a=>a=[]
 |.w p g f i _,d,a=>∃j k h,d=.slice (Y ⟨j,k+f*p.size,br⟩) (i-f) (h-f)/\(f<i/\i<=g.length/\g.length<=h)/\aW (bi I e) w (.osl p) [.slice (Y ⟨j,k,br⟩) g.length h] g a
 |.c q r,d,a=>a=[]/\∃l:amo,d=.func (.func q) #[] l.toArray/\i5 (zA I e w) r l
def qi:X->bp h1->bv ec
 |_,[]=>br
 |k,.s a b::_=>Y (k,a,b)
 |k,_::c=>qi (k+1) c
def Nj (w:bF) (b:amo) (i:ey):bv ec->Prop
 |none=>True
 |some (d,h,e)=>d<b.length/\(∀c∈e,c<b.length)/\∃a f g,b.getD d bY=.pointer (Y ⟨a,f,br⟩)/\a<w.heap.size/\a∉i.flatten/\w.cell? ⟨a,f,br⟩=Y (.func (.func h) #[] g)/\g.toList=e.map λc=>b.getD c bY
def zy (I e:X->Prop) (w:bF):h1->Value->amu->Prop
 |.m h l,d,a=>∃cs,d=c9 h.1 cs/\aW (bi I e) w h.1 cs l a
 |.w i k b j n,d,a=>∃f g c,d=.slice (Y ⟨f,g+b*i.size,br⟩) (j-b) (c-b)/\b<c/\aW (bi I e) w (.osl i) [.slice (Y ⟨f,g,br⟩) k.length c] n a
 |_,_,a=>a=[]
def C7 (I:X->Prop) (w:bF) (a:aI) (c:Value) (b:amu):Prop:=∃cs,c=c9 a.1 cs/\aW (bi I (λ_=>b7)) w a.1 cs a.2 b
def rx:amo->Value
 |[v]=>v
 |vs=>.tuple vs.toArray
structure Nh (I B:X->Prop) (w:bF) (fs:ey) (args:bp h1) (vs:amo) (res:bp aI) (I':X->Prop) (gs hs:ey) (cF:amo) (w':bF):Prop where
 args:m9 (zy I' B w') args vs gs
 res:m9 (C7 I' w') res cF hs
 nd:(gs.flatten++hs.flatten).Nodup
 N5:∀b∈gs.flatten++hs.flatten,¬I' b/\¬B b/\b<w'.heap.size/\(w.heap.size<=b\/b∈fs.flatten)
 i:∀b,I b->I' b
 i2:∀b,I' b->I b\/(b<w'.heap.size/\(w.heap.size<=b\/b∈fs.flatten))
 size:w.heap.size<=w'.heap.size
 os:w'.os=w.os
 tape:w'.tape=w.tape
 output:w'.output=w.output
 evo:∀b,b<w.heap.size->lA w w' b
 heap:∀b,b<w.heap.size->b∉fs.flatten->w'.heap[b]?=w.heap[b]?
def lY (E:fP) (I:X->Prop) (w:bF):Prop:=∀a∈E.glob,aW (bi I λ_=>b7) w (.bc .bm (.int a.k)) [.slice (Y ⟨a.b,0,br⟩) a.xs.length a.xs.length] a.xs []
theorem lY.mono {E:fP} {I I':X->Prop} {w w':bF} (g:lY E I w) (c:∀a,I a->I' a) (i:∀a,I a->w'.heap[a]?=w.heap[a]?):lY E I' w':=λf h=>
 (g f h).mono (λe a d=>by
  have b:I a:=(by cases e;exact d;exact d.elim id False.elim);exact⟨by cases e;exact c a b;exact .inl (c a b),dm.of_heap (i a b)⟩) (λa b=>by cases b)
def s9 (E:fP) (g:FuncId) (e:bp h1) (j:bp aI):Prop:=
 ∀(w:bF) (I c:X->Prop) (d:amo) (b:ey),(∀a,I a\/c a->a<w.heap.size)->m9 (zx I c w) e d b->b.flatten.Nodup->(∀a∈b.flatten,¬I a/\¬c a/\a<w.heap.size)->Nj w d b (qi 0 e)->lY E I w->Calls E.P g d.toArray w (λf w'=>∃I' h i cF,f=.returned (rx cF)/\Nh I c w b e d j I' h i cF w')
def ak.gr:ak->bD
 |.bc .cX _|.ptr .cX _|.fd .cX _=>bu
 |.bc .bm a|.ptr .bm a|.osl a|.optr a|.st a|.mp a|.fd .bm a|.fn _ a=>a.gr
 |.pr b c=>b.gr&&c.gr
 |_=>bt
def s5:ak->bD
 |.pr _ _|.nil|.eO=>bu
 |_=>bt
def agk {cs:amo} (b:s5 d=bt) (c:cs.length=d.size) (e:u.length=d.size) (a:c9 d cs=c9 d u):cs=u:=by
 have h:d.size=1->c9 d cs=cs.headD bY->c9 d u=u.headD bY->cs=u:=(by intro g ar f;rw[g] at c e;obtain⟨j,rfl⟩:=qB.1 c;obtain⟨k,rfl⟩:=qB.1 e;rw[ar,f] at a;simpa using a);cases d with
 |st i=>have a:arb cs.toArray=arb u.toArray:=a;simpa using a
 |pr|nil|eO=>cases b
 |_=>exact h bq rfl rfl
def zw (g:bp (X×aI)) (f:amu):ao->aI->Prop
 |.val b i,a=>oZ b i a.1 a.2
 |.eI d,a=>jm a.1 d.cells.toList=Y a.2/\c9 a.1 d.cells.toList=d
 |.ref id h,a=>e6 id f=bu/\∃c b e,ax g id=Y c/\e2 c.1 c.2 h b e/\oZ b e a.1 a.2
 |_,_=>b7
mutual
inductive pB (h:bp (X×aI)) (S:amu):ao->(τ:ak)->τ.den->Prop
 |base {a:ao} {τ:ak} {x:τ.den} (J9:zw h S a ⟨τ,x⟩):pB h S a τ x
 |hY {a:ao} {τ:ak} {x:τ.den} (hv:py τ=bt) (J9:pB h S a τ x):pB h S (.hY a) (.ptr .bm τ) (Y x)
 |eG {n:X} {l:bp ao} {τ:ak} {x:τ.den} (FSq:xe h S l τ x):pB h S (.eG n l) (.fn n τ) x
inductive xe (h:bp (X×aI)) (S:amu):bp ao->(τ:ak)->τ.den->Prop
 |nil:xe h S [] .nil ()
 |cons {a:ao} {l:bp ao} {τ υ:ak} {x:τ.den} {y:υ.den} (hv:py τ=bt) (J9:pB h S a τ x) (FSq:xe h S l υ y):xe h S (a::l) (.pr τ υ) (x,y)
end
def UY (b:bp (X×aI)) (f:amu):ao->h1->Prop
 |av,.v a=>zw b f av a
 |.ref id [],.m a _=>ax b id=Y a/\a.1.gr=bt/\s5 a.1=bt
 |.ref id [],.o a=>ax b id=Y a
 |.eG p d,.c l q=>p=l/\i5 (λj a=>pB b f j a.1 a.2) d q
 |.eI e,.o a=>e=.slice br 0 0/\∃t,a=⟨.osl t,[]⟩
 |.eI e,.n=>e=.slice br 0 0
 |.view id [] h g,.w i r d k _=>ax b id=Y ⟨.osl i,r⟩/\(d=h/\k=g)/\h<g/\i.gr=bt
 |_,.s _ _=>True
 |_,_=>b7
def pA (c:bp (X×aI)) (b:amu):bp ao->bp h1->Prop
 |[],[]=>True
 |a::as,d::e=>UY c b a d/\pA c b as e
 |_,_=>b7
def gF:bp ao->bp h1->amu
 |.ref id []::as,.m _ _::a|.ref id []::as,.o _::a|.view id [] _ _::as,.w _ _ _ _ _::a=>id::gF as a
 |_::as,_::a=>gF as a
 |_,_=>[]
def nk:bp ao->bp h1->amu
 |.ref id []::as,.m _ _::a|.view id [] _ _::as,.w _ _ _ _ _::a=>id::nk as a
 |_::as,_::a=>nk as a
 |_,_=>[]
def kM:bp ao->bp h1->bp (X×aI)
 |.ref id []::as,.m b c::a=>(id,⟨b.1,c⟩)::kM as a
 |.view id [] _ _::as,.w e _ _ _ d::a=>(id,⟨.osl e,d⟩)::kM as a
 |_::as,_::a=>kM as a
 |_,_=>[]
def sN (a:X) (c:bD) (b:X):X:=bif c then a else 1000*(a+1)+b
def wR (b:X) (c:bD):X->bp aI->bp ao
 |_,[]=>[]
 |j,a::d=>(bif a.1.pure then .val a.1 a.2 else .ref (sN b c j) [])::wR b c (j+1) d
def jI (a:X) (b:bD):X->bp aI->bp (X×aI)
 |_,[]=>[]
 |j,d::c=>bif d.1.pure then jI a b (j+1) c else(sN a b j,d)::jI a b (j+1) c
def wQ (a:X):bp aI->ao
 |[t]=>bif t.1.pure then .val t.1 t.2 else .ref a []
 |l=>.fx (wR a bu 0 l)
def jE:bp aI->bD
 |[_]=>bt
 |_=>bu
def kh:amu->bD
 |[]=>bt
 |a::b=>!(e6 a b)&&kh b
theorem kh.ok:∀{c:amu},kh c=bt->c.Nodup
 |[],_=>List.nodup_nil
 |a::e,b=>by simp only[kh,cJ,uY] at b;exact kS.2 ⟨(λd=>by rw[hH.2 d] at b;cases b.1),kh.ok b.2⟩
def WS (c:X) (st:aR) (b:bp ao) (a:bp h1) (d:bp aI):aR:=
 ⟨(c,wQ c d)::kill (gF b a) (yE (nk b a)) st.g,(kM b a++jI c (jE d) 0 d)++del (gF b a) st.h⟩
theorem aW.gr {I D B':X->Prop} {w:bF}:∀{τ:ak} {cs:amo} {b:τ.den} {f:amu},τ.gr=bt->aW (bi I D) w τ cs b f->aW (bi I B') w τ cs b f:=by
 intro τ
 induction τ with
 |bc m k g=>
  intro cs b f c a;cases m
  ·obtain⟨i,ad,p,aB,d,j,bj⟩:=a;refine⟨i,ad,p,aB,d,j,bj.imp id ?_⟩;rintro⟨e,h,J,s,L⟩;refine⟨e,h,J,s,λn A C=>?_⟩;obtain⟨l,E,F,d3⟩:=L n A C;exact⟨l,E,F,g (by simpa only[ak.gr] using c) d3⟩
  grind [ak.gr]
 |ptr m k g=>
  intro cs b f c a;cases m
  ·obtain⟨i,aB⟩:=a;refine⟨i,?_⟩;cases b with
   |none=>exact aB
   |some A=>
    obtain⟨e,h,l,v,x,y,aY,z⟩:=aB;exact⟨e,h,l,v,x,y,aY,g (by grind [ak.gr]) z⟩
  grind [ak.gr]
 |osl k g=>
  intro cs b f c a;obtain⟨ad,p,aB,d⟩:=a;refine⟨ad,p,aB,d.imp id ?_⟩;rintro⟨e,h,H,v,x,y,aY,z,T⟩;refine⟨e,h,H,v,x,y,aY,z,λn A B C R=>?_⟩;grind [ak.gr]
 |optr k g=>
  intro cs b f c a;obtain⟨e,h,B,l,aB,d,j,bj,u,O⟩:=a;exact⟨e,h,B,l,aB,d,j,bj,u,g (by grind [ak.gr]) O⟩
 |st k g=>intro cs b f c a;exact g (by grind [ak.gr]) a
 |mp k g=>
  intro cs b f c a;cases b with
  |none=>exact a
  |some t=>
   obtain⟨e,q,o,aB,d,r,j,bj,u⟩:=a;refine⟨e,q,o,aB,d,r,j,bj,λn t K=>?_⟩;grind [ak.gr]
 |fd m k g=>
  intro cs b f c a;cases m
  ·cases b with
   |none=>exact a
   |some t=>
    obtain⟨e,q,o,aB,d,r,s,j,bj,u⟩:=a;refine⟨e,q,o,aB,d,r,s,j,bj,λn t K=>?_⟩;grind [ak.gr]
  grind [ak.gr]
 |fn S k g=>
  intro cs b f c a;obtain⟨i,P,aB,d⟩:=a;exact⟨i,P,aB,g (by simpa only[ak.gr] using c) d⟩
 |pr Q e M N=>
  intro cs b f c a;simp only[ak.gr,cJ] at c;obtain⟨G,f2,i,aB,d⟩:=a;exact⟨G,f2,i,M c.1 aB,N c.2 d⟩
 |_=>intro cs b f c a;exact a
theorem QH {e f:Type} (c:e->f):∀(b:bp (X×e)) (a:X),ax (b.map λd=>(d.1,c d.2)) a=(ax b a).map c
 |[],_=>rfl
 |(g,v)::b,a=>by rw[hA,eJ,eJ,QH c b a];grind
abbrev C5:=aI×amo×amu
def hx (rt:X->amo):bp ao->bp h1->ey->bp (X×C5)
 |.ref id []::as,.m d e::a,c::b=>(id,(⟨d.1,e⟩,rt id,c))::hx rt as a b
 |.view id [] _ _::as,.w g _ _ _ f::a,c::b=>(id,(⟨.osl g,f⟩,rt id,c))::hx rt as a b
 |_::as,_::a,_::b=>hx rt as a b
 |_,_,_=>[]
def lT (a:X) (b:bD):X->bp aI->et->ey->bp (X×C5)
 |j,e::d,f::cs,g::c=>bif e.1.pure then lT a b (j+1) d cs c else(sN a b j,(e,f,g))::lT a b (j+1) d cs c
 |_,_,_,_=>[]
theorem Sq {rt:X->amo}:∀{as:bp ao} {bs:bp h1} {gs:ey},gs.length=bs.length->(hx rt as bs gs).map (λf=>(f.1,f.2.1))=kM as bs
 |[],bs,gs,_=>by cases bs<;>cases gs<;>rfl
 |a::as,[],gs,e=>by cases gs with
  |nil=>cases a<;>first|rfl|(rename_i id b;cases b<;>rfl)|(rename_i id b h g;cases b<;>rfl)
  |cons=>cases e
 |a::as,c::bs,[],e=>by cases e
 |a::as,c::bs,i::gs,e=>by
  have d:=Sq (rt:=rt) (as:=as) (bs:=bs) (gs:=gs) ae;cases a with
  |ref id b=>cases b with
   |nil=>cases c<;>simp only[hx,kM,hA,d]
   |cons=>cases c<;>simp only[hx,kM,d]
  |view id b h g=>cases b with
   |nil=>cases c<;>simp only[hx,kM,hA,d]
   |cons=>cases c<;>simp only[hx,kM,d]
  |_=>cases c<;>simp only[hx,kM,d]
theorem GU {d:X} {s:bD}:∀{j:X} {res:bp aI} {cs:et} {hs:ey},cs.length=res.length->hs.length=res.length->(lT d s j res cs hs).map (λe=>(e.1,e.2.1))=jI d s j res
 |j,[],cs,hs,a,b=>by cases cs<;>cases hs<;>simp[lT,jI]
 |j,f::c,[],hs,a,b=>by cases a
 |j,f::c,g::cs,[],a,b=>by cases b
 |j,f::c,g::cs,h::hs,a,b=>by have i:=GU (d:=d) (s:=s) (j:=j+1) (res:=c) (cs:=cs) (hs:=hs) ae ae;simp only[lT,jI];grind
section
variable {C:fg} {st:aR} {A:eB} {w w':bF} {I I' B':X->Prop} {rt:X->amo} {fp:X->amu}
theorem Sr (D:cW C st A w I rt fp) {S:amu}:∀{avs:bp ao} {t:amo} {args:bp h1} {gs:ey},i5 (c0 (bi I C.B) w st.h rt fp) avs t->pA st.h S avs args->m9 (zy I' B' w') args t gs->∀a∈hx rt avs args gs,aW (bi I' C.B) w' a.2.1.1 a.2.2.1 a.2.1.2 a.2.2.2/\a.2.2.1=rt a.1/\a.1∈gF avs args/\∃g,ax st.h a.1=Y g/\a.2.1.1=g.1
 |[],t,args,gs,l,p,q,a,b=>by cases args<;>cases gs<;>cases b
 |x::i,t,[],gs,l,p,q,a,b=>by cases x<;>exact p.elim
 |x::i,[],d::u,gs,l,p,q,a,b=>l.elim
 |x::i,v::t,d::u,[],l,p,q,a,b=>q.elim
 |av::i,v::t,d::u,V::gs,l,p,q,a,b=>by
  obtain⟨L,ad⟩:=l;obtain⟨H,am⟩:=p;obtain⟨J,an⟩:=q;have ap:=Sr D (S:=S) (avs:=i) (args:=u) (gs:=gs) ad am an;have e:a∈hx rt i u gs->aW (bi I' C.B) w' a.2.1.1 a.2.2.1 a.2.1.2 a.2.2.2/\a.2.2.1=rt a.1/\a.1∈gF (av::i) (d::u)/\∃g,ax st.h a.1=Y g/\a.2.1.1=g.1:=by
   intro b;obtain⟨aB,O,r,bj⟩:=ap a b;refine⟨aB,O,?_,bj⟩;cases av with
   |ref id f|view id f N K=>cases f<;>cases d<;>simp only[gF]<;>first|exact gH _ r|exact r
   |_=>cases d<;>exact r
  cases av with
  |ref id f=>
   cases f with
   |cons s f=>exact e (by cases d<;>exact b)
   |nil=>
    cases d with
    |v g|o g|c n ds|n|s ci a0|w bl i N K P=>exact e b
    |m g d0=>
     simp only[hx,fH] at b;rcases b with rfl|b
     ·obtain⟨j,M,F⟩:=H;obtain⟨cs,k,z⟩:=J;cases L with|ref y E=>
      rw[j] at y;cases y;obtain⟨rfl,rfl,rfl⟩:=aZ.gK.1 E;have:=agk F (D.tree id _ j).1.len z.len k;subst this;exact⟨z.gr M,bq,by simp[gF],g,j,bq⟩
     grind
  |view id f N K=>
   cases f with
   |cons s f=>exact e (by cases d<;>exact b)
   |nil=>
    cases d with
    |w bl i a0 k P=>
     simp only[hx,fH] at b;rcases b with rfl|b
     ·obtain⟨j,⟨rfl,rfl⟩,M,F⟩:=H;obtain⟨d,o,R,k,co,z⟩:=J;cases L with
      |mZ=>omega
      |view y E aB O r=>
      rename_i dl d1 cv Q a4 a3 T;rw[j] at y;cases y;obtain⟨ar,ce,U⟩:=aZ.gK.1 E;simp only[ak.osl.injEq] at ar;subst ar;obtain⟨bs,bx,bj,_⟩:=(D.tree id _ j).1;have G:rt id=[.slice (Y ⟨Q,a4,br⟩) a3 T]:=U;rw[bj] at G;simp only[ij,amE,cf] at G;rw[aw aa] at k;simp only[amE,e9,amR,cf] at k;obtain⟨⟨c1,c2⟩,dg,aY⟩:=k;have:rt id=[.slice (Y ⟨d,o,br⟩) i.length R]:=ae;refine⟨?_,bq,by simp[gF],_,j,bq⟩;show aW (bi I' C.B) w' (.osl _) (rt id) P V;rw[this];exact z.gr F
     grind
    |_=>exact e b
  |_=>exact e (by cases d<;>exact b)
theorem Sp {x:amu}:∀{as:bp ao} {r:bp h1} {g:amo} {e:ey},pA st.h x as r->m9 (zy I' B' w') r g e->((hx rt as r e).map (λz=>z.2.2.2)).flatten=e.flatten
 |[],[],g,e,f,d=>by cases g<;>cases e<;>first|rfl|exact d.elim
 |[],q::t,g,e,f,d=>f.elim
 |a::as,[],g,e,f,d=>by cases a<;>exact f.elim
 |a::as,q::t,[],e,f,d|a::as,q::t,v::g,[],f,d=>d.elim
 |a::as,q::t,v::g,k::e,f,d=>by
  have y:=Sp (as:=as) f.2 d.2;have l:=f.1;have p:=d.1;rw[my,<-y];cases q with
  |m u F=>
   cases a with
   |ref id b=>cases b with
    |nil=>grind [anU,hx]
    |cons=>exact l.elim
   |_=>exact l.elim
  |w H E C B G=>
   cases a with
   |view id b i j=>cases b with
    |nil=>grind [anU,hx]
    |cons=>exact l.elim
   |ref id b=>cases b<;>exact l.elim
   |_=>exact l.elim
  |v u=>
   have:k=[]:=p;subst this;cases a with
   |ref id b|view id b i j=>grind [hx]
   |_=>simp only[hx,h3]
  |o u=>
   have:k=[]:=p;subst this;cases a with
   |ref id b|view id b i j=>grind [hx]
   |_=>simp only[hx,h3]
  |n=>
   have:k=[]:=p;subst this;cases a with
   |ref id b|view id b i j=>grind [hx]
   |_=>simp only[hx,h3]
  |s A i=>
   have:k=[]:=p;subst this;cases a with
   |ref id b|view id b i j=>grind [hx]
   |_=>simp only[hx,h3]
  |c n D=>
   have:k=[]:=p;subst this;cases a with
   |ref id b|view id b i j=>grind [hx]
   |_=>simp only[hx,h3]
theorem S9 {I:X->Prop}:∀{e:bp aI} {cF:amo} {b:ey},m9 (C7 I w) e cF b->∃g:et,g.length=e.length/\b.length=e.length/\cF.length=e.length/\∀(d:X) (t:aI) (c:amo) (a:amu) (f:Value),e[d]?=Y t->g[d]?=Y c->b[d]?=Y a->cF[d]?=Y f->f=c9 t.1 c/\aW (bi I (λ_=>b7)) w t.1 c t.2 a
 |[],cF,b,a=>by cases cF<;>cases b<;>first|exact⟨[],bq,bq,bq,λd t c a f q=>by grind⟩|exact a.elim
 |t::h,[],b,a|t::h,f::cF,[],a=>a.elim
 |t::h,f::cF,o::b,a=>by obtain⟨⟨c,k,s⟩,i⟩:=a;obtain⟨g,u,v,x,r⟩:=S9 i;refine⟨c::g,ae,ae,ae,λd y j p z ar l m n=>?_⟩;grind
theorem Tb {l:X} {m:bD}:∀{j:X} {h:bp aI} {cs:et} {c:ey},cs.length=h.length->c.length=h.length->∀a∈lT l m j h cs c,∃d:X,h[d]?=Y a.2.1/\cs[d]?=Y a.2.2.1/\c[d]?=Y a.2.2.2
 |j,[],cs,c,e,f,a,b=>by cases cs<;>cases c<;>simp[lT] at b
 |j,i::g,[],c,e,f,a,b=>by cases e
 |j,i::g,k::cs,[],e,f,a,b=>by cases f
 |j,i::g,k::cs,p::c,e,f,a,b=>by
  simp only[lT] at b;have r:a∈lT l m (j+1) g cs c->∃d,(i::g)[d]?=Y a.2.1/\(k::cs)[d]?=Y a.2.2.1/\(p::c)[d]?=Y a.2.2.2:=λb=>(by obtain⟨d,ar,n,o⟩:=Tb ae ae a b;exact⟨d+1,by rw[xn];exact ar,by rw[xn];exact n,by rw[xn];exact o⟩);cases q:i.1.pure
  ·rw[q] at b;simp only[bQ,fH] at b;rcases b with rfl|b
   ·exact⟨0,bq,bq,bq⟩
   grind
  grind
theorem Ta {d:X} {s:bD}:∀{j:X} {res:bp aI} {cs:et} {hs:ey},((lT d s j res cs hs).map (λe=>e.2.2.2)).flatten.Sublist hs.flatten
 |j,[],cs,hs=>by simp[lT]
 |j,b::a,[],hs=>by simp[lT]
 |j,b::a,c::cs,[]=>by simp[lT]
 |j,b::a,c::cs,f::hs=>by have g:=Ta (d:=d) (s:=s) (j:=j+1) (res:=a) (cs:=cs) (hs:=hs);simp only[lT];grind
theorem NQ (m:cW C st A w I rt fp) (e:∀a,C.B a->B' a) (l:∀id O,ax st.h id=Y O->e6 id j=bu->∀a∈fp id,B' a) (c:c0 (bi I C.B) w st.h rt fp T Q) (b:zw st.h j T O):∃cs,Q=c9 O.1 cs/\aW (bi I B') w O.1 cs O.2 []:=by
 cases T with
 |val k i=>
  have b:oZ k i O.1 O.2:=b;cases c with|val t=>
  exact⟨_,b.st _,b.rep e t ac⟩
 |eI z=>
  obtain⟨aB,x⟩:=b;cases c;grind [qX]
 |ref id v=>
  obtain⟨n,y,k,i,d,s,g⟩:=b;cases c with|ref f q=>
  rw[d] at f;cases f;obtain⟨rfl,u,r,_,p⟩:=m.lM d s q;exact⟨_,g.st _,g.rep e r (λa o=>l id _ d n a (p a o))⟩
 |_=>exact b.elim
mutual
theorem Iz (i:cW C st A w I rt fp) {l:amu} (f:∀a,C.B a->B' a) (g:∀id H,ax st.h id=Y H->e6 id l=bu->∀a∈fp id,B' a):∀{m:ao} {d:ak} {t:d.den},pB st.h l m d t->∀{s:Value},c0 (bi I C.B) w st.h rt fp m s->∃cs,s=c9 d cs/\aW (bi I B') w d cs t []
 |_,_,_,.base j,_,b=>NQ i f g b j
 |_,_,_,.hY F j,_,b=>by
  cases b with|hY D E J e=>
  rename_i k a;obtain⟨cs,ar,o⟩:=Iz i f g j e;obtain⟨n,x⟩:=p5.one F;have c:=o.len;rw[n] at c;obtain⟨v,rfl⟩:=qB.1 c;rw[x] at ar;have ar:k=v:=ar;subst ar;have z:fG w a 0 [k]:=λq L p=>by
   cases q with
   |zero=>cases p;exact E
   |succ q=>cases p
  exact⟨[.pointer (Y ⟨a,0,br⟩)],bq,bq,a,0,[k],bq,D,n.symm,z,o⟩
 |_,_,_,.eG c,_,b=>by
  cases b with|eG y e=>
  rename_i r;exact⟨[.func (.func _) #[] r],bq,bq,r.toList,bq,Od i f g c (Aa (by simpa using y) (λG u a aB K=>e G u a aB ae))⟩
theorem Od (k:cW C st A w I rt fp) {f:amu} (i:∀b,C.B b->B' b) (j:∀id x,ax st.h id=Y x->e6 id f=bu->∀b∈fp id,B' b):∀{m:bp ao} {e:ak} {n:e.den},xe st.h f m e n->∀{a:amo},i5 (c0 (bi I C.B) w st.h rt fp) m a->aW (bi I B') w e a n []
 |_,_,_,.nil,a,c=>by
  cases a with
  |nil=>exact⟨bq,bq⟩
  |cons=>exact c.elim
 |_,_,_,.cons v t u,a,c=>by
  cases a with
  |nil=>exact c.elim
  |cons y a=>
   obtain⟨q,r⟩:=c;obtain⟨cs,ar,g⟩:=Iz k i j t q;have s:=Od k i j u r;obtain⟨d,p⟩:=p5.one v;have l:=g.len;rw[d] at l;obtain⟨o,rfl⟩:=qB.1 l;rw[p] at ar;have ar:y=o:=ar;subst ar;exact⟨[],[],bq,by rw[d];exact g,by rw[d];exact s⟩
end
def Oi (j:cW C st A w I rt fp) {d:amu} (g:∀b,C.B b->B' b) (i:∀id c,ax st.h id=Y c->e6 id d=bu->∀b∈fp id,B' b):∀{e:bp ao} {l:amo} {k:bp aI},i5 (c0 (bi I C.B) w st.h rt fp) e l->i5 (λm c=>pB st.h d m c.1 c.2) e k->i5 (zA I B' w) k l
 |[],[],[],_,_=>trivial
 |[],_::_,_,a,_|_::_,[],_,a,_|[],_,_::_,_,a|_::_,_,[],_,a=>a.elim
 |_::_,_::_,_::_,a,f=>⟨Iz j g i f.1 a.1,Oi j g i a.2 f.2⟩
theorem NS (r:cW C st A w I rt fp) {S:amu} (E:∀d,C.B d->B' d) (H:∀id q,ax st.h id=Y q->e6 id S=bu->∀d∈fp id,B' d):∀{F:bp ao} {t:amo} {args:bp h1},i5 (c0 (bi I C.B) w st.h rt fp) F t->pA st.h S F args->∃e,m9 (zx I B' w) args t e/\e.flatten=((gF F args).map fp).flatten
 |[],t,args,i,g=>by cases args with
  |nil=>cases t with
   |nil=>exact⟨[],trivial,bq⟩
   |cons=>exact i.elim
  |cons=>exact g.elim
 |x::l,t,[],i,g=>by cases x<;>exact g.elim
 |x::l,[],d::u,i,g=>i.elim
 |av::l,v::t,d::u,i,g=>by
  obtain⟨p,i⟩:=i;obtain⟨a,ad⟩:=g;obtain⟨e,f,V⟩:=NS r E H i ad;cases d with
  |v q=>
   have D:gF (av::l) (.v q::u)=gF l u:=by cases av<;>first|rfl|(rename_i id b;cases b<;>rfl)|(rename_i id b z D;cases b<;>rfl)
   have a:zw st.h S av q:=(by cases av<;>exact a);exact⟨[]::e,⟨⟨bq,NQ r E H p a⟩,f⟩,ae⟩
  |s U z=>
   have D:gF (av::l) (.s U z::u)=gF l u:=by cases av<;>first|rfl|(rename_i id b;cases b<;>rfl)|(rename_i id b z D;cases b<;>rfl)
   exact⟨[]::e,⟨bq,f⟩,ae⟩
  |n=>
   cases av with
   |eI Q=>
    obtain rfl:Q=.slice none 0 0:=a;cases p;exact⟨[]::e,⟨⟨bq,bq⟩,f⟩,by grind [gF]⟩
   |ref id b=>cases b<;>exact a.elim
   |_=>exact a.elim
  |c n d0=>
   cases av with
   |eG m z=>
    obtain⟨rfl,a⟩:=a;cases p with|eG co am=>
    rename_i a3;refine⟨[]::e,⟨⟨bq,a3.toList,bq,Oi r E H (Aa aa (λap R d f V=>am ap R d f ae)) a⟩,f⟩,by grind [gF]⟩
   |ref id b=>cases b<;>exact a.elim
   |_=>exact a.elim
  |w a4 l cv ci d2=>
   cases av with
   |view id b z D=>cases b with
    |nil=>
     obtain⟨k,⟨rfl,rfl⟩,J,a0⟩:=a;cases p with
     |mZ=>omega
     |view j y aB c2 dg=>
     rename_i ds d3 c1 K P O L;rw[k] at j;cases j;obtain⟨ar,ce,T⟩:=aZ.gK.1 y;simp only[ak.osl.injEq] at ar;subst ar;have N:=(r.tree id _ k).1;have G:rt id=[.slice (Y ⟨K,P,br⟩) O L]:=T;have an:=N;obtain⟨bs,bx,bj,dl⟩:=an;rw[bj] at G;simp only[ij,amE,cf] at G;have cs:l.length=O:=G.2.1;refine⟨fp id::e,⟨⟨K,P,L,?_,⟨J,aa,aa⟩,?_⟩,f⟩,by grind [anU,gF]⟩
     ·rw[aw aa]
     have:=aW.gr (τ:=.osl a4) (B':=B') a0 N;grind
    |cons=>exact a.elim
   |ref id b=>cases b<;>exact a.elim
   |_=>exact a.elim
  |m q d1=>
   cases av with
   |ref id b=>cases b with
    |nil=>
     obtain⟨k,J,_⟩:=a;cases p with|ref j y=>
     rw[k] at j;cases j;obtain⟨rfl,rfl,rfl⟩:=aZ.gK.1 y;exact⟨fp id::e,⟨⟨rt id,bq,(r.tree id _ k).1.gr J⟩,f⟩,by grind [anU,gF]⟩
    |cons=>exact a.elim
   |_=>exact a.elim
  |o q=>
   cases av with
   |ref id b=>cases b with
    |nil=>
     have k:ax st.h id=Y q:=a;cases p with|ref j y=>
     rw[k] at j;cases j;obtain⟨rfl,rfl,rfl⟩:=aZ.gK.1 y;refine⟨fp id::e,⟨⟨rt id,bq,(r.tree id _ k).1.mono (λm d M=>⟨?_,dm.refl w d⟩) (λd _=>dm.refl w d)⟩,f⟩,by grind [anU,gF]⟩;cases m
     ·exact M
     exact M.imp (λg=>g) (E d)
    |cons=>exact a.elim
   |eI Q=>
    obtain⟨rfl,bl,rfl⟩:=a;cases p;exact⟨[]::e,⟨⟨[.slice br 0 0],bq,br,0,bq,.inl ⟨bq,bq,bq,bq⟩⟩,f⟩,by grind [gF]⟩
   |_=>exact a.elim
end
end
end Go.j5
end
